/- Functions of the program, in plain Lean, and their walks (printed; half the indent). Conditions: none. -/
-- PRINTED by print.py (a twelfth state) out of the translation. Not trusted: Lean checks it.
import Derived.Test.YtakemodmdhglnaaPAx0
import Derived.Test.YtakemodmdhglnaaPAx4
import Derived.Test.YtakemodmdhglnaaPAx6
namespace Go.Proofs.Ytakemodmdhglnaa.PA
open Go.RowKit Go.Proofs.YtakemodmdhglnaaW.PrintWords Go.Proofs.YtakemodmdhglnaaW.PrintLast Go.Proofs.YtakemodmdhglnaaW.PrintMore
attribute [local go_sem] zqbb zqaz zqbd zqbe zqax zqay zqba zqbc   -- for this text's walks alone
set_option linter.unusedVariables false
set_option linter.unusedSimpArgs false

/-! HAND field_Bits: function 16 -/
/-- The levels of bytes, eight each. -/
def byteBits : List Int → Option (List Int)
 | [] => some []
 | b :: t => (bits_Of.f 1000 (IntKind.u64.wrap b) 8).bind fun y => if y.2 = 0 ∧ y.1.length ≤ 1000 then (byteBits t).bind fun m => some (y.1 ++ m) else none
def field_Bits.f (a0_0 : Int) (a0_1 : Bool) (a0_2 : Bool) (a0_3 : Int) (a0_4 : Int) (a0_5 : Int) (a0_6 : Int) (a0_7 : Int) (a0_8 : Int) (a0_9 : Int) (a0_10 : Int) (a0_11 : Int) : Option (List Int × Int) :=
 (frame_Arb.f 1000 a0_0 a0_1 a0_2 a0_3 a0_4 a0_5 a0_6 a0_7 a0_8 a0_9 a0_10 a0_11).bind fun a => if a.2 ≠ 0 then some ([], a.2) else
  if 0 ≤ a0_3 ∧ a0_3 ≤ 8 ∧ a.1.length ≤ 1000 then
   (bits_Of.f 1000 (IntKind.u64.wrap a0_3) (if a0_1 = true then 6 else 5)).bind fun y => if y.2 = 0 ∧ y.1.length ≤ 1000 then
    (if a0_2 = true then some ([0] ++ a.1 ++ y.1, 0) else (byteBits ([a0_4, a0_5, a0_6, a0_7, a0_8, a0_9, a0_10, a0_11].take a0_3.toNat)).bind fun m => some ([0] ++ a.1 ++ y.1 ++ m, 0))
   else none
  else none
/-- What holds while a frame's levels are put. -/
structure PutSt (w : World) (fr : Array Value) (b0 b1 b2 : Nat) (W : World) (out : List Int) : Prop where
 bel : Below w.heap.size w W
 le0 : w.heap.size ≤ b0
 le1 : w.heap.size ≤ b1
 le2 : w.heap.size ≤ b2
 n01 : b0 ≠ b1
 n02 : b0 ≠ b2
 n12 : b1 ≠ b2
 bk : W.heap[b0]? = some (.cells fr 24 (0, 0))
 own : ∃ v, W.heap[b1]? = some (.cells #[v] 25 (0, 0)) ∧ Kd.R (Kd.int .i64) 3 W w.heap.size (fun k => k ≠ b0 ∧ k ≠ b1 ∧ k ≠ b2) v out
 cw : W.heap[b2]? = some (.cells #[.int .i64 0] 26 (0, 0))
theorem PutSt.after {w : World} {fr : Array Value} {b0 b1 b2 : Nat} {W W1 : World} {out : List Int} (h : PutSt w fr b0 b1 b2 W out) (hb : Below W.heap.size W W1) : PutSt w fr b0 b1 b2 W1 out := by
 obtain ⟨h1, h2, h3, h4, h5, h6, h7, h8, ⟨v, h9, h10⟩, h11⟩ := h
 exact ⟨zqbf h1 h1.size hb, h2, h3, h4, h5, h6, h7, zqam h8 hb, ⟨v, zqam h9 hb, Kd.R_below h10 hb⟩, zqam h11 hb⟩
theorem PutSt.size {w : World} {fr : Array Value} {b0 b1 b2 : Nat} {W : World} {out : List Int} (h : PutSt w fr b0 b1 b2 W out) : b0 < W.heap.size ∧ b1 < W.heap.size ∧ b2 < W.heap.size := by
 obtain ⟨v, h9, _⟩ := h.own
 exact ⟨blk_lt h.bk, blk_lt h9, blk_lt h.cw⟩
theorem PutSt.next {w : World} {fr : Array Value} {b0 b1 b2 : Nat} {W W1 : World} {out l : List Int} {v v1 : Value} (h : PutSt w fr b0 b1 b2 W out) (hv : W.heap[b1]? = some (.cells #[v] 25 (0, 0)))
  (hR : Kd.R (Kd.int .i64) 3 W w.heap.size (fun k => k ≠ b0 ∧ k ≠ b1 ∧ k ≠ b2) v out) (ho : Kd.R (Kd.int .i64) 3 W1 w.heap.size (fun k => k ≠ b0 ∧ k ≠ b1 ∧ k ≠ b2) v1 (out ++ l)) (hb : Below w.heap.size w W1) (hg : W.grownBy W1 v.ownBlock) :
  W1.heap[b1]? = some (.cells #[v] 25 (0, 0)) ∧ PutSt w fr b0 b1 b2 (W1.setCell ⟨b1, 0, none⟩ v1) (out ++ l) := by
 have hn0 : some b0 ≠ v.ownBlock := Kd.R_away hR (fun _ hk => hk.1)
 have hn1 : some b1 ≠ v.ownBlock := Kd.R_away hR (fun _ hk => hk.2.1)
 have hn2 : some b2 ≠ v.ownBlock := Kd.R_away hR (fun _ hk => hk.2.2)
 have e0 := zqaw h.bk hg hn0
 have e1 := zqaw hv hg hn1
 have e2 := zqaw h.cw hg hn2
 exact ⟨e1, zqah hb h.le1, h.le0, h.le1, h.le2, h.n01, h.n02, h.n12, zqas e0 h.n01 _, ⟨v1, zqan e1 0 v1 rfl, Kd.R_far ho (fun k hk => hk.2.1) _⟩, zqas e2 (fun e => h.n12 e.symm) _⟩
set_option maxHeartbeats 2000000 in
set_option maxRecDepth 100000 in
theorem put.calls (n wd : Int) (l out : List Int) (fr : Array Value) (b0 b1 b2 : Nat) (w W : World) (h : PutSt w fr b0 b1 b2 W out) (ho : bits_Of.f 1000 n wd = some (l, 0)) (hl : out.length + l.length ≤ 1000000) :
  Calls Try.prog 45 #[.int .u64 n, .int .i64 wd, .pointer (some ⟨b2, 0, none⟩), .pointer (some ⟨b1, 0, none⟩)] W fun e w' => e = .returned (.tuple #[]) ∧ PutSt w fr b0 b1 b2 w' (out ++ l) := by
 have HO := Aside0.mk (bits_Of.calls 1000 n wd l 0 W ho)
 have HH := Aside0.mk h
 have HL : Aside0 ((out.length + l.length) * 8 ≤ 140737488355328) := ⟨by omega⟩
 clear h ho hl
 go_enter Try.func45, Try.ntmps45
 go_wp2_with (first | (go_at_call 46; refine HO.out.mono ?_; rintro e w1 ⟨v0, rfl, hr, hb⟩; have HP := Aside0.mk (HH.out.after hb); obtain ⟨A, c, ev, hc, hcc⟩ := Kd.R_reads hr; subst ev; have HC := Aside0.mk hcc; obtain ⟨v, hv, hR⟩ := HP.out.own; obtain ⟨Ao, co, eo⟩ := Kd.R_slice hR; subst eo; have hc1 : w1.cell? ⟨b1, 0, none⟩ = some (.slice Ao out.length co) := (zqab hv 0).trans rfl; have hf1 := zqaa hv 0; have HV := Aside0.mk hv; have HR := Aside0.mk hR; clear hv hR hr hb hcc hc) | ((with_reducible refine zqao (b := .append) (xs := #[.tmp 17, .tmp 18]) rfl ?_); at_builtin; refine Kd.R_append_row (Value.int .i64) (0 : Int) (h1 := fun _ => rfl) (w0 := w) w.heap.size rfl (.tmp 17) (.tmp 18) 25 3 (.int .i64 0) 8 rfl Try.underlying25 info3 rfl (by decide) _ out l A l.length c (fun k => k ≠ b0 ∧ k ≠ b1 ∧ k ≠ b2) rfl rfl ?aF HR.out HC.out HP.out.bel HP.out.bel.size HL.out ?_; (case aF => intro k hk; have := HP.out.size; omega); intro v1 w3 ho hb hg hat; obtain ⟨Ax, cx, ex⟩ := Kd.R_slice ho; subst ex; have HN := Aside0.mk (HP.out.next HV.out HR.out ho hb hg); have hc3 : w3.cell? ⟨b1, 0, none⟩ = some (.slice Ao out.length co) := (zqab HN.out.1 0).trans rfl; have hf3 := zqaa HN.out.1 0; clear ho hb hg hat))
 go_end0
 exact ⟨rfl, by have h_ := HN.out.2; simp only [List.length_append] at h_; exact h_⟩
theorem one_int (W : World) (base B : Nat) (hb : base ≤ B) (ok : Nat → Prop) (hk : ok B) (h : W.heap[B]? = some (.cells #[.int .i64 0] 3 (0, 0))) : (Kd.int .i64).R 3 W base ok (.slice (some ⟨B, 0, none⟩) 1 1) [0] := by
 refine ⟨fun k hk' => ?_, [.int .i64 0], ⟨rfl, .inr ⟨B, 1, #[.int .i64 0], rfl, hb, h, Nat.le_refl _, by decide, rfl, rfl⟩⟩, Reps.one rfl (Reps.none _ _)⟩
 have e : some B = some k := hk'
 injection e with e
 rw [← e]
 exact hk
/-- Where the levels are put, first. -/
theorem PutSt.start {w w2 : World} {fr : Array Value} {v1 : Value} {out : List Int} (hlt : w.heap.size < w2.heap.size) (hb : Below w.heap.size w w2) (hk : w2.heap[w.heap.size]? = some (.cells fr 24 (0, 0))) (hR : Kd.R (Kd.int .i64) 3 w2 w.heap.size (fun k => k ≠ w.heap.size) v1 out) :
  PutSt w fr w.heap.size w2.heap.size (w2.heap.size + 1) ((w2.alloc (.cells #[v1] 25)).alloc (.cells #[.int .i64 0] 26)) out := by
 refine ⟨zqad (zqad hb _) _, Nat.le_refl _, by omega, by omega, by omega, by omega, by omega, zqaf (zqaf hk _) _, ⟨v1, zqaf (heap_alloc_new _ _) _, ?_⟩, ?_⟩
 ·
  refine Kd.R_alloc (Kd.R_alloc (Kd.R_mono (Kd.R_bound hR) (fun k hk => ?_)) _) _
  obtain ⟨h1, _, h2, _⟩ := hk
  exact ⟨h1, by omega, by omega⟩
 ·
  have h := heap_alloc_new (w2.alloc (.cells #[v1] 25)) (.cells #[.int .i64 0] 26)
  rwa [World.size_alloc] at h
theorem PutSt.done {w : World} {fr : Array Value} {b0 b1 b2 : Nat} {W : World} {out r : List Int} (h : PutSt w fr b0 b1 b2 W out) (e : out = r) {v : Value} (hv : W.heap[b1]? = some (.cells #[v] 25 (0, 0))) : Kd.R (Kd.int .i64) 3 W w.heap.size (fun _ => True) v r := by
 obtain ⟨u, hu, hR⟩ := h.own
 rw [hv] at hu
 injection hu with hu
 injection hu with hu _
 obtain rfl : v = u := by simpa using hu
 rw [← e]
 exact Kd.R_mono hR (fun _ _ => trivial)
set_option maxHeartbeats 2000000 in
set_option maxRecDepth 100000 in
theorem field_Bits.calls (a0_0 : Int) (a0_1 : Bool) (a0_2 : Bool) (a0_3 : Int) (a0_4 : Int) (a0_5 : Int) (a0_6 : Int) (a0_7 : Int) (a0_8 : Int) (a0_9 : Int) (a0_10 : Int) (a0_11 : Int) (r1 : List Int) (r2 : Int) (w : World) (h : field_Bits.f a0_0 a0_1 a0_2 a0_3 a0_4 a0_5 a0_6 a0_7 a0_8 a0_9 a0_10 a0_11 = some (r1, r2)) :
  Calls Try.prog 16 #[.agg #[.int .i64 a0_0, .bool a0_1, .bool a0_2, .int .i64 a0_3, .int .u8 a0_4, .int .u8 a0_5, .int .u8 a0_6, .int .u8 a0_7, .int .u8 a0_8, .int .u8 a0_9, .int .u8 a0_10, .int .u8 a0_11]] w fun e w' => ∃ v0_ : Value, e = .returned (.tuple #[v0_, .int .i64 r2]) ∧ Kd.R (Kd.int .i64) 3 w' w.heap.size (fun _ => True) v0_ r1 ∧ Below w.heap.size w w' := by
 unfold field_Bits.f at h
 cases ha : frame_Arb.f 1000 a0_0 a0_1 a0_2 a0_3 a0_4 a0_5 a0_6 a0_7 a0_8 a0_9 a0_10 a0_11 with
 | none => rw [ha] at h; exact absurd h (by simp)
 | some q =>
  obtain ⟨al, ae⟩ := q
  rw [ha] at h
  simp only [Option.bind_some] at h
  have HA := Aside0.mk (fun w => frame_Arb.calls 1000 a0_0 a0_1 a0_2 a0_3 a0_4 a0_5 a0_6 a0_7 a0_8 a0_9 a0_10 a0_11 al ae w ha)
  clear ha
  by_cases h0 : ae = 0
  ·
   subst h0
   rw [if_neg (by simp)] at h
   by_cases h8 : 0 ≤ a0_3 ∧ a0_3 ≤ 8 ∧ al.length ≤ 1000
   ·
    rw [if_pos h8] at h
    obtain ⟨n, rfl⟩ := Int.eq_ofNat_of_zero_le h8.1
    have hn : n ≤ 8 := by omega
    have HL1 : Aside0 ((([0] : List Int).length + al.length) * 8 ≤ 140737488355328) := ⟨by simp only [List.length_singleton]; omega⟩
    cases a0_1
    ·
     simp only [Bool.false_eq_true, if_false] at h
     cases hy : bits_Of.f 1000 (IntKind.u64.wrap (n : Int)) 5 with
     | none => rw [hy] at h; exact absurd h (by simp)
     | some q =>
      obtain ⟨yl, ye⟩ := q
      rw [hy] at h
      simp only [Option.bind_some] at h
      by_cases h1 : ye = 0 ∧ yl.length ≤ 1000
      ·
       rw [if_pos h1] at h
       obtain ⟨rfl, hyl⟩ := h1
       rw [show IntKind.u64.wrap (n : Int) = (n : Int) from by simp [IntKind.wrap, IntKind.bits, IntKind.signed]; omega] at hy
       have HY := Aside0.mk hy
       have HL2 : Aside0 (([0] ++ al).length + yl.length ≤ 1000000) := ⟨by rw [List.length_append, List.length_singleton]; omega⟩
       have HYL := Aside0.mk hyl
       have hmf : ∀ (fn : Fn) (first cap : Array Value) (w : World), (Instr.makeFunc fn first cap).run Try.prog w = .ok (.func fn first cap) w := fun _ _ _ _ => rfl
       have HAL : Aside0 (al.length ≤ 1000) := ⟨h8.2.2⟩
       have hs1 : ¬ ((n : Int) < 0) := by omega
       have hs2 : ¬ ((n : Int) > 8) := by omega
       have hs3 : ¬ (8 < n) := by omega
       have hs4 : (n : Int) ≤ 8 := by omega
       clear hy hyl h8
       cases a0_2
       ·
        simp only [Bool.false_eq_true, if_false] at h
        rw [Int.toNat_natCast] at h
        obtain ⟨BS, hBS⟩ : ∃ BS, BS = [a0_4, a0_5, a0_6, a0_7, a0_8, a0_9, a0_10, a0_11] := ⟨_, rfl⟩
        rw [← hBS] at h
        have HBL : Aside0 (BS.length = 8) := ⟨by rw [hBS]; rfl⟩
        cases hm : byteBits (BS.take n) with
        | none => rw [hm] at h; exact absurd h (by simp)
        | some m0 =>
         rw [hm] at h
         simp only [Option.bind_some, Option.some.injEq, Prod.mk.injEq] at h
         obtain ⟨e1, rfl⟩ := h
         have HE := Aside0.mk e1
         have HM0 := Aside0.mk hm
         have HBS := Aside0.mk hBS
         clear e1 hm hBS
         go_enter Try.func16, Try.ntmps16
         go_wp2_with (first | (go_at_call 44; refine (HA.out _).mono ?_; rintro e w1 ⟨v0, rfl, hr, hb⟩; have HB1 := Aside0.mk (zqak (zqad (Below.refl _ _) _) hb); have BK1 := Aside0.mk (zqam (heap_alloc_new _ _) hb); obtain ⟨A, c, ev, hc, hcc⟩ := Kd.R_reads hr; subst ev; have HC := Aside0.mk hcc; have HS := Aside0.mk (blk_lt BK1.out); clear hr hb hcc hc) | ((with_reducible refine zqao (b := .append) (xs := #[.tmp 20, .tmp 21]) rfl ?_); at_builtin; refine Kd.R_append_row (Value.int .i64) (0 : Int) (h1 := fun _ => rfl) (w0 := w) w.heap.size rfl (.tmp 20) (.tmp 21) 25 3 (.int .i64 0) 8 rfl Try.underlying25 info3 rfl (by decide) _ [0] al A al.length c (fun k => k ≠ w.heap.size) rfl rfl ?aF ?aO ?aR ?aB ?aS ?aL ?_; (case aF => intro k hk; have := HS.out; simp only [World.size_alloc] at hk; omega); (case aO => exact one_int _ _ _ (by have := HS.out; omega) _ (by have := HS.out; omega) (heap_alloc_new _ _)); (case aR => exact Kd.C_below HC.out (zqad (Below.refl _ _) _)); (case aB => exact zqad HB1.out _); (case aS => have := HS.out; simp only [World.size_alloc]; omega); (case aL => exact HL1.out); intro v1 w2 ho hb hg hat; have BK2 := Aside0.mk (zqaw (zqaf BK1.out _) hg (fun e => by have hs_ := HS.out; have e_ : some w.heap.size = some w1.heap.size := e; injection e_ with e_; omega)); obtain ⟨Ax, cx, ex⟩ := Kd.R_slice ho; subst ex; change Kd.R (Kd.int .i64) 3 w2 w.heap.size _ (.slice Ax (al.length + 1) cx) _ at ho; have hlt2 := blk_lt BK2.out; have hne1 : ¬ (w.heap.size = w2.heap.size) := (by omega); have hne2 : ¬ (w.heap.size = w2.heap.size + 1) := (by omega); have HP0 := PutSt.start hlt2 hb BK2.out ho; have hcE := (zqab HP0.bk 1).trans (rfl : _ = some (Value.bool false)); have hcL := (zqab HP0.bk 3).trans (rfl : _ = some (Value.int .i64 (n : Int))); have HPUT := Aside0.mk (put.calls _ _ yl ([0] ++ al) _ _ _ _ w _ HP0 HY.out HL2.out); clear ho hb hg hat hlt2 HP0) | (go_at_call 45; refine HPUT.out.mono ?_; rintro e w3 ⟨rfl, hp⟩; obtain ⟨oo, hoo⟩ : ∃ oo, oo = [0] ++ al ++ yl := ⟨_, rfl⟩; rw [← hoo] at hp; have HOO := Aside0.mk hoo; have HP := Aside0.mk hp; clear hoo; have hcR := (zqab HP.out.bk 2).trans (rfl : _ = some (Value.bool false)); have hcM := (zqab HP.out.bk 3).trans (rfl : _ = some (Value.int .i64 (n : Int))); have hcW := (zqab HP.out.cw 0).trans (rfl : _ = some (Value.int .i64 0)); have hfW := zqaa HP.out.cw 0; obtain ⟨v3, hv3, hR3⟩ := HP.out.own; have HV3 := Aside0.mk hv3; have hcO := (zqab HV3.out 0).trans (rfl : _ = some v3); obtain ⟨Ay, cy, ey⟩ := Kd.R_slice hR3; subst ey; clear hp hv3 hR3))
         go_loopw [41] (fun i wr => ∃ (k : Nat) (out m : List Int), k ≤ n ∧ i = .int .i64 (k : Int) ∧ Aside0 (byteBits ((BS.take n).drop k) = some m) ∧ Aside0 (out ++ m = r1) ∧ Aside0 (out.length ≤ 3000 + 1000 * k) ∧ Aside0 (PutSt w #[.int .i64 a0_0, .bool false, .bool false, .int .i64 (n : Int), .int .u8 a0_4, .int .u8 a0_5, .int .u8 a0_6, .int .u8 a0_7, .int .u8 a0_8, .int .u8 a0_9, .int .u8 a0_10, .int .u8 a0_11] w.heap.size w2.heap.size (w2.heap.size + 1) wr out)) (fun i _ => n - (intOf i).toNat)
         case atStart => exact ⟨0, oo, m0, Nat.zero_le _, rfl, ⟨HM0.out⟩, ⟨by rw [HOO.out]; exact HE.out⟩, ⟨by rw [HOO.out]; have h1_ := HAL.out; have h2_ := HYL.out; simp only [List.length_append, List.length_singleton]; omega⟩, HP⟩
         case round =>
          clear hcR hcM hcW hfW hcO hcE hcL HP HV3
          obtain ⟨k, out, m, hk, rfl, HM, HO, HLO, HPk⟩ := hrel
          by_cases hlt : k < n
          ·
           have hm := HM.out
           have hlen : (BS.take n).length = n := by rw [List.length_take, HBL.out]; omega
           have hkb : k < (BS.take n).length := by omega
           rw [List.drop_eq_getElem_cons hkb, byteBits] at hm
           have hkB : k < BS.length := by rw [HBL.out]; omega
           have hbe : (BS.take n)[k] = BS.getD k 0 := by rw [List.getElem_take, List.getD_eq_getElem?_getD, List.getElem?_eq_getElem hkB]; rfl
           rw [hbe] at hm
           have hcell : wr.cell? ⟨w.heap.size, 4 + k, none⟩ = some (.int .u8 (BS.getD k 0)) := by
            rw [zqab HPk.out.bk, HBS.out]
            have h8_ : k < 8 := by omega
            match k, h8_ with
            | 0, _ => rfl
            | 1, _ => rfl
            | 2, _ => rfl
            | 3, _ => rfl
            | 4, _ => rfl
            | 5, _ => rfl
            | 6, _ => rfl
            | 7, _ => rfl
           have hcell2 : wr.cell? (if k = 0 then ⟨w.heap.size, 4, none⟩ else ⟨w.heap.size, 4 + k, none⟩) = some (.int .u8 (BS.getD k 0)) := by
            split
            ·
             rename_i h0_
             rw [h0_] at hcell ⊢
             exact hcell
            ·
             exact hcell
           have hcell3 : wr.cell? (Addr.add ⟨w.heap.size, 4, none⟩ k) = some (.int .u8 (BS.getD k 0)) := by
            unfold Addr.add
            exact hcell2
           generalize BS.getD k 0 = b at hm hcell hcell2 hcell3
           cases hy : bits_Of.f 1000 (IntKind.u64.wrap b) 8 with
           | none => rw [hy] at hm; exact absurd hm (by simp)
           | some q =>
            obtain ⟨zl, ze⟩ := q
            rw [hy] at hm
            simp only [Option.bind_some] at hm
            by_cases hz : ze = 0 ∧ zl.length ≤ 1000
            ·
             rw [if_pos hz] at hm
             obtain ⟨rfl, hzl⟩ := hz
             cases hm2 : byteBits ((BS.take n).drop (k + 1)) with
             | none => rw [hm2] at hm; exact absurd hm (by simp)
             | some m2 =>
              rw [hm2] at hm
              simp only [Option.bind_some, Option.some.injEq] at hm
              subst hm
              have HM2 := Aside0.mk hm2
              have HLO2 : Aside0 ((out ++ zl).length ≤ 3000 + 1000 * (k + 1)) := ⟨by rw [List.length_append]; have := HLO.out; omega⟩
              have HO2 : Aside0 ((out ++ zl) ++ m2 = r1) := ⟨by rw [List.append_assoc]; exact HO.out⟩
              have HPUT2 := Aside0.mk (put.calls _ _ zl out _ _ _ _ w _ HPk.out hy (by have := HLO.out; omega))
              clear hy hzl hm2 hbe hkB hkb hlen
              go_wp2_with (go_at_call 45; refine HPUT2.out.mono ?_; rintro e w4 ⟨rfl, hp⟩; have HP4 := Aside0.mk hp; clear hp)
              exact ⟨⟨k + 1, out ++ zl, m2, by omega, by go_num, HM2, HO2, HLO2, HP4⟩, by simp [intOf]; omega⟩
            ·
             rw [if_neg hz] at hm
             exact absurd hm (by simp)
          ·
           have hke : k = n := by omega
           have HOE : Aside0 (out = r1) := ⟨by
            have h1_ := HM.out
            rw [List.drop_eq_nil_of_le (by rw [List.length_take, HBL.out]; omega)] at h1_
            simp only [byteBits, Option.some.injEq] at h1_
            have h2_ := HO.out
            rw [← h1_, List.append_nil] at h2_
            exact h2_⟩
           obtain ⟨v5, hv5, hR5⟩ := HPk.out.own
           obtain ⟨Az, cz, ez⟩ := Kd.R_slice hR5
           subst ez
           have HV5 := Aside0.mk hv5
           have hcW := (zqab HPk.out.cw 0).trans (rfl : _ = some (Value.int .i64 0))
           have hcO := (zqab HV5.out 0).trans (rfl : _ = some (Value.slice Az out.length cz))
           clear hv5 hR5
           go_wp2
           go_ret2
           exact ⟨_, rfl, HPk.out.done HOE.out HV5.out, HPk.out.bel⟩
       ·
        simp only [if_true, Option.some.injEq, Prod.mk.injEq] at h
        obtain ⟨e1, rfl⟩ := h
        have HE := Aside0.mk e1
        clear e1
        go_enter Try.func16, Try.ntmps16
        go_wp2_with (first | (go_at_call 44; refine (HA.out _).mono ?_; rintro e w1 ⟨v0, rfl, hr, hb⟩; have HB1 := Aside0.mk (zqak (zqad (Below.refl _ _) _) hb); have BK1 := Aside0.mk (zqam (heap_alloc_new _ _) hb); obtain ⟨A, c, ev, hc, hcc⟩ := Kd.R_reads hr; subst ev; have HC := Aside0.mk hcc; have HS := Aside0.mk (blk_lt BK1.out); clear hr hb hcc hc) | ((with_reducible refine zqao (b := .append) (xs := #[.tmp 20, .tmp 21]) rfl ?_); at_builtin; refine Kd.R_append_row (Value.int .i64) (0 : Int) (h1 := fun _ => rfl) (w0 := w) w.heap.size rfl (.tmp 20) (.tmp 21) 25 3 (.int .i64 0) 8 rfl Try.underlying25 info3 rfl (by decide) _ [0] al A al.length c (fun k => k ≠ w.heap.size) rfl rfl ?aF ?aO ?aR ?aB ?aS ?aL ?_; (case aF => intro k hk; have := HS.out; simp only [World.size_alloc] at hk; omega); (case aO => exact one_int _ _ _ (by have := HS.out; omega) _ (by have := HS.out; omega) (heap_alloc_new _ _)); (case aR => exact Kd.C_below HC.out (zqad (Below.refl _ _) _)); (case aB => exact zqad HB1.out _); (case aS => have := HS.out; simp only [World.size_alloc]; omega); (case aL => exact HL1.out); intro v1 w2 ho hb hg hat; have BK2 := Aside0.mk (zqaw (zqaf BK1.out _) hg (fun e => by have hs_ := HS.out; have e_ : some w.heap.size = some w1.heap.size := e; injection e_ with e_; omega)); obtain ⟨Ax, cx, ex⟩ := Kd.R_slice ho; subst ex; change Kd.R (Kd.int .i64) 3 w2 w.heap.size _ (.slice Ax (al.length + 1) cx) _ at ho; have hlt2 := blk_lt BK2.out; have hne1 : ¬ (w.heap.size = w2.heap.size) := (by omega); have hne2 : ¬ (w.heap.size = w2.heap.size + 1) := (by omega); have HP0 := PutSt.start hlt2 hb BK2.out ho; have hcE := (zqab HP0.bk 1).trans (rfl : _ = some (Value.bool false)); have hcL := (zqab HP0.bk 3).trans (rfl : _ = some (Value.int .i64 (n : Int))); have HPUT := Aside0.mk (put.calls _ _ yl ([0] ++ al) _ _ _ _ w _ HP0 HY.out HL2.out); clear ho hb hg hat hlt2 HP0) | (go_at_call 45; refine HPUT.out.mono ?_; rintro e w3 ⟨rfl, hp⟩; obtain ⟨oo, hoo⟩ : ∃ oo, oo = [0] ++ al ++ yl := ⟨_, rfl⟩; rw [← hoo] at hp; have HOO := Aside0.mk hoo; have HP := Aside0.mk hp; clear hoo; have hcR := (zqab HP.out.bk 2).trans (rfl : _ = some (Value.bool true)); have hcM := (zqab HP.out.bk 3).trans (rfl : _ = some (Value.int .i64 (n : Int))); have hcW := (zqab HP.out.cw 0).trans (rfl : _ = some (Value.int .i64 0)); have hfW := zqaa HP.out.cw 0; obtain ⟨v3, hv3, hR3⟩ := HP.out.own; have HV3 := Aside0.mk hv3; have hcO := (zqab HV3.out 0).trans (rfl : _ = some v3); obtain ⟨Ay, cy, ey⟩ := Kd.R_slice hR3; subst ey; clear hp hv3 hR3))
        go_ret2
        exact ⟨_, rfl, HP.out.done (HOO.out.trans HE.out) HV3.out, HP.out.bel⟩
      ·
       rw [if_neg h1] at h
       exact absurd h (by simp)
    ·
     simp only [if_true] at h
     cases hy : bits_Of.f 1000 (IntKind.u64.wrap (n : Int)) 6 with
     | none => rw [hy] at h; exact absurd h (by simp)
     | some q =>
      obtain ⟨yl, ye⟩ := q
      rw [hy] at h
      simp only [Option.bind_some] at h
      by_cases h1 : ye = 0 ∧ yl.length ≤ 1000
      ·
       rw [if_pos h1] at h
       obtain ⟨rfl, hyl⟩ := h1
       rw [show IntKind.u64.wrap (n : Int) = (n : Int) from by simp [IntKind.wrap, IntKind.bits, IntKind.signed]; omega] at hy
       have HY := Aside0.mk hy
       have HL2 : Aside0 (([0] ++ al).length + yl.length ≤ 1000000) := ⟨by rw [List.length_append, List.length_singleton]; omega⟩
       have HYL := Aside0.mk hyl
       have hmf : ∀ (fn : Fn) (first cap : Array Value) (w : World), (Instr.makeFunc fn first cap).run Try.prog w = .ok (.func fn first cap) w := fun _ _ _ _ => rfl
       have HAL : Aside0 (al.length ≤ 1000) := ⟨h8.2.2⟩
       have hs1 : ¬ ((n : Int) < 0) := by omega
       have hs2 : ¬ ((n : Int) > 8) := by omega
       have hs3 : ¬ (8 < n) := by omega
       have hs4 : (n : Int) ≤ 8 := by omega
       clear hy hyl h8
       cases a0_2
       ·
        simp only [Bool.false_eq_true, if_false] at h
        rw [Int.toNat_natCast] at h
        obtain ⟨BS, hBS⟩ : ∃ BS, BS = [a0_4, a0_5, a0_6, a0_7, a0_8, a0_9, a0_10, a0_11] := ⟨_, rfl⟩
        rw [← hBS] at h
        have HBL : Aside0 (BS.length = 8) := ⟨by rw [hBS]; rfl⟩
        cases hm : byteBits (BS.take n) with
        | none => rw [hm] at h; exact absurd h (by simp)
        | some m0 =>
         rw [hm] at h
         simp only [Option.bind_some, Option.some.injEq, Prod.mk.injEq] at h
         obtain ⟨e1, rfl⟩ := h
         have HE := Aside0.mk e1
         have HM0 := Aside0.mk hm
         have HBS := Aside0.mk hBS
         clear e1 hm hBS
         go_enter Try.func16, Try.ntmps16
         go_wp2_with (first | (go_at_call 44; refine (HA.out _).mono ?_; rintro e w1 ⟨v0, rfl, hr, hb⟩; have HB1 := Aside0.mk (zqak (zqad (Below.refl _ _) _) hb); have BK1 := Aside0.mk (zqam (heap_alloc_new _ _) hb); obtain ⟨A, c, ev, hc, hcc⟩ := Kd.R_reads hr; subst ev; have HC := Aside0.mk hcc; have HS := Aside0.mk (blk_lt BK1.out); clear hr hb hcc hc) | ((with_reducible refine zqao (b := .append) (xs := #[.tmp 20, .tmp 21]) rfl ?_); at_builtin; refine Kd.R_append_row (Value.int .i64) (0 : Int) (h1 := fun _ => rfl) (w0 := w) w.heap.size rfl (.tmp 20) (.tmp 21) 25 3 (.int .i64 0) 8 rfl Try.underlying25 info3 rfl (by decide) _ [0] al A al.length c (fun k => k ≠ w.heap.size) rfl rfl ?aF ?aO ?aR ?aB ?aS ?aL ?_; (case aF => intro k hk; have := HS.out; simp only [World.size_alloc] at hk; omega); (case aO => exact one_int _ _ _ (by have := HS.out; omega) _ (by have := HS.out; omega) (heap_alloc_new _ _)); (case aR => exact Kd.C_below HC.out (zqad (Below.refl _ _) _)); (case aB => exact zqad HB1.out _); (case aS => have := HS.out; simp only [World.size_alloc]; omega); (case aL => exact HL1.out); intro v1 w2 ho hb hg hat; have BK2 := Aside0.mk (zqaw (zqaf BK1.out _) hg (fun e => by have hs_ := HS.out; have e_ : some w.heap.size = some w1.heap.size := e; injection e_ with e_; omega)); obtain ⟨Ax, cx, ex⟩ := Kd.R_slice ho; subst ex; change Kd.R (Kd.int .i64) 3 w2 w.heap.size _ (.slice Ax (al.length + 1) cx) _ at ho; have hlt2 := blk_lt BK2.out; have hne1 : ¬ (w.heap.size = w2.heap.size) := (by omega); have hne2 : ¬ (w.heap.size = w2.heap.size + 1) := (by omega); have HP0 := PutSt.start hlt2 hb BK2.out ho; have hcE := (zqab HP0.bk 1).trans (rfl : _ = some (Value.bool true)); have hcL := (zqab HP0.bk 3).trans (rfl : _ = some (Value.int .i64 (n : Int))); have HPUT := Aside0.mk (put.calls _ _ yl ([0] ++ al) _ _ _ _ w _ HP0 HY.out HL2.out); clear ho hb hg hat hlt2 HP0) | (go_at_call 45; refine HPUT.out.mono ?_; rintro e w3 ⟨rfl, hp⟩; obtain ⟨oo, hoo⟩ : ∃ oo, oo = [0] ++ al ++ yl := ⟨_, rfl⟩; rw [← hoo] at hp; have HOO := Aside0.mk hoo; have HP := Aside0.mk hp; clear hoo; have hcR := (zqab HP.out.bk 2).trans (rfl : _ = some (Value.bool false)); have hcM := (zqab HP.out.bk 3).trans (rfl : _ = some (Value.int .i64 (n : Int))); have hcW := (zqab HP.out.cw 0).trans (rfl : _ = some (Value.int .i64 0)); have hfW := zqaa HP.out.cw 0; obtain ⟨v3, hv3, hR3⟩ := HP.out.own; have HV3 := Aside0.mk hv3; have hcO := (zqab HV3.out 0).trans (rfl : _ = some v3); obtain ⟨Ay, cy, ey⟩ := Kd.R_slice hR3; subst ey; clear hp hv3 hR3))
         go_loopw [41] (fun i wr => ∃ (k : Nat) (out m : List Int), k ≤ n ∧ i = .int .i64 (k : Int) ∧ Aside0 (byteBits ((BS.take n).drop k) = some m) ∧ Aside0 (out ++ m = r1) ∧ Aside0 (out.length ≤ 3000 + 1000 * k) ∧ Aside0 (PutSt w #[.int .i64 a0_0, .bool true, .bool false, .int .i64 (n : Int), .int .u8 a0_4, .int .u8 a0_5, .int .u8 a0_6, .int .u8 a0_7, .int .u8 a0_8, .int .u8 a0_9, .int .u8 a0_10, .int .u8 a0_11] w.heap.size w2.heap.size (w2.heap.size + 1) wr out)) (fun i _ => n - (intOf i).toNat)
         case atStart => exact ⟨0, oo, m0, Nat.zero_le _, rfl, ⟨HM0.out⟩, ⟨by rw [HOO.out]; exact HE.out⟩, ⟨by rw [HOO.out]; have h1_ := HAL.out; have h2_ := HYL.out; simp only [List.length_append, List.length_singleton]; omega⟩, HP⟩
         case round =>
          clear hcR hcM hcW hfW hcO hcE hcL HP HV3
          obtain ⟨k, out, m, hk, rfl, HM, HO, HLO, HPk⟩ := hrel
          by_cases hlt : k < n
          ·
           have hm := HM.out
           have hlen : (BS.take n).length = n := by rw [List.length_take, HBL.out]; omega
           have hkb : k < (BS.take n).length := by omega
           rw [List.drop_eq_getElem_cons hkb, byteBits] at hm
           have hkB : k < BS.length := by rw [HBL.out]; omega
           have hbe : (BS.take n)[k] = BS.getD k 0 := by rw [List.getElem_take, List.getD_eq_getElem?_getD, List.getElem?_eq_getElem hkB]; rfl
           rw [hbe] at hm
           have hcell : wr.cell? ⟨w.heap.size, 4 + k, none⟩ = some (.int .u8 (BS.getD k 0)) := by
            rw [zqab HPk.out.bk, HBS.out]
            have h8_ : k < 8 := by omega
            match k, h8_ with
            | 0, _ => rfl
            | 1, _ => rfl
            | 2, _ => rfl
            | 3, _ => rfl
            | 4, _ => rfl
            | 5, _ => rfl
            | 6, _ => rfl
            | 7, _ => rfl
           have hcell2 : wr.cell? (if k = 0 then ⟨w.heap.size, 4, none⟩ else ⟨w.heap.size, 4 + k, none⟩) = some (.int .u8 (BS.getD k 0)) := by
            split
            ·
             rename_i h0_
             rw [h0_] at hcell ⊢
             exact hcell
            ·
             exact hcell
           have hcell3 : wr.cell? (Addr.add ⟨w.heap.size, 4, none⟩ k) = some (.int .u8 (BS.getD k 0)) := by
            unfold Addr.add
            exact hcell2
           generalize BS.getD k 0 = b at hm hcell hcell2 hcell3
           cases hy : bits_Of.f 1000 (IntKind.u64.wrap b) 8 with
           | none => rw [hy] at hm; exact absurd hm (by simp)
           | some q =>
            obtain ⟨zl, ze⟩ := q
            rw [hy] at hm
            simp only [Option.bind_some] at hm
            by_cases hz : ze = 0 ∧ zl.length ≤ 1000
            ·
             rw [if_pos hz] at hm
             obtain ⟨rfl, hzl⟩ := hz
             cases hm2 : byteBits ((BS.take n).drop (k + 1)) with
             | none => rw [hm2] at hm; exact absurd hm (by simp)
             | some m2 =>
              rw [hm2] at hm
              simp only [Option.bind_some, Option.some.injEq] at hm
              subst hm
              have HM2 := Aside0.mk hm2
              have HLO2 : Aside0 ((out ++ zl).length ≤ 3000 + 1000 * (k + 1)) := ⟨by rw [List.length_append]; have := HLO.out; omega⟩
              have HO2 : Aside0 ((out ++ zl) ++ m2 = r1) := ⟨by rw [List.append_assoc]; exact HO.out⟩
              have HPUT2 := Aside0.mk (put.calls _ _ zl out _ _ _ _ w _ HPk.out hy (by have := HLO.out; omega))
              clear hy hzl hm2 hbe hkB hkb hlen
              go_wp2_with (go_at_call 45; refine HPUT2.out.mono ?_; rintro e w4 ⟨rfl, hp⟩; have HP4 := Aside0.mk hp; clear hp)
              exact ⟨⟨k + 1, out ++ zl, m2, by omega, by go_num, HM2, HO2, HLO2, HP4⟩, by simp [intOf]; omega⟩
            ·
             rw [if_neg hz] at hm
             exact absurd hm (by simp)
          ·
           have hke : k = n := by omega
           have HOE : Aside0 (out = r1) := ⟨by
            have h1_ := HM.out
            rw [List.drop_eq_nil_of_le (by rw [List.length_take, HBL.out]; omega)] at h1_
            simp only [byteBits, Option.some.injEq] at h1_
            have h2_ := HO.out
            rw [← h1_, List.append_nil] at h2_
            exact h2_⟩
           obtain ⟨v5, hv5, hR5⟩ := HPk.out.own
           obtain ⟨Az, cz, ez⟩ := Kd.R_slice hR5
           subst ez
           have HV5 := Aside0.mk hv5
           have hcW := (zqab HPk.out.cw 0).trans (rfl : _ = some (Value.int .i64 0))
           have hcO := (zqab HV5.out 0).trans (rfl : _ = some (Value.slice Az out.length cz))
           clear hv5 hR5
           go_wp2
           go_ret2
           exact ⟨_, rfl, HPk.out.done HOE.out HV5.out, HPk.out.bel⟩
       ·
        simp only [if_true, Option.some.injEq, Prod.mk.injEq] at h
        obtain ⟨e1, rfl⟩ := h
        have HE := Aside0.mk e1
        clear e1
        go_enter Try.func16, Try.ntmps16
        go_wp2_with (first | (go_at_call 44; refine (HA.out _).mono ?_; rintro e w1 ⟨v0, rfl, hr, hb⟩; have HB1 := Aside0.mk (zqak (zqad (Below.refl _ _) _) hb); have BK1 := Aside0.mk (zqam (heap_alloc_new _ _) hb); obtain ⟨A, c, ev, hc, hcc⟩ := Kd.R_reads hr; subst ev; have HC := Aside0.mk hcc; have HS := Aside0.mk (blk_lt BK1.out); clear hr hb hcc hc) | ((with_reducible refine zqao (b := .append) (xs := #[.tmp 20, .tmp 21]) rfl ?_); at_builtin; refine Kd.R_append_row (Value.int .i64) (0 : Int) (h1 := fun _ => rfl) (w0 := w) w.heap.size rfl (.tmp 20) (.tmp 21) 25 3 (.int .i64 0) 8 rfl Try.underlying25 info3 rfl (by decide) _ [0] al A al.length c (fun k => k ≠ w.heap.size) rfl rfl ?aF ?aO ?aR ?aB ?aS ?aL ?_; (case aF => intro k hk; have := HS.out; simp only [World.size_alloc] at hk; omega); (case aO => exact one_int _ _ _ (by have := HS.out; omega) _ (by have := HS.out; omega) (heap_alloc_new _ _)); (case aR => exact Kd.C_below HC.out (zqad (Below.refl _ _) _)); (case aB => exact zqad HB1.out _); (case aS => have := HS.out; simp only [World.size_alloc]; omega); (case aL => exact HL1.out); intro v1 w2 ho hb hg hat; have BK2 := Aside0.mk (zqaw (zqaf BK1.out _) hg (fun e => by have hs_ := HS.out; have e_ : some w.heap.size = some w1.heap.size := e; injection e_ with e_; omega)); obtain ⟨Ax, cx, ex⟩ := Kd.R_slice ho; subst ex; change Kd.R (Kd.int .i64) 3 w2 w.heap.size _ (.slice Ax (al.length + 1) cx) _ at ho; have hlt2 := blk_lt BK2.out; have hne1 : ¬ (w.heap.size = w2.heap.size) := (by omega); have hne2 : ¬ (w.heap.size = w2.heap.size + 1) := (by omega); have HP0 := PutSt.start hlt2 hb BK2.out ho; have hcE := (zqab HP0.bk 1).trans (rfl : _ = some (Value.bool true)); have hcL := (zqab HP0.bk 3).trans (rfl : _ = some (Value.int .i64 (n : Int))); have HPUT := Aside0.mk (put.calls _ _ yl ([0] ++ al) _ _ _ _ w _ HP0 HY.out HL2.out); clear ho hb hg hat hlt2 HP0) | (go_at_call 45; refine HPUT.out.mono ?_; rintro e w3 ⟨rfl, hp⟩; obtain ⟨oo, hoo⟩ : ∃ oo, oo = [0] ++ al ++ yl := ⟨_, rfl⟩; rw [← hoo] at hp; have HOO := Aside0.mk hoo; have HP := Aside0.mk hp; clear hoo; have hcR := (zqab HP.out.bk 2).trans (rfl : _ = some (Value.bool true)); have hcM := (zqab HP.out.bk 3).trans (rfl : _ = some (Value.int .i64 (n : Int))); have hcW := (zqab HP.out.cw 0).trans (rfl : _ = some (Value.int .i64 0)); have hfW := zqaa HP.out.cw 0; obtain ⟨v3, hv3, hR3⟩ := HP.out.own; have HV3 := Aside0.mk hv3; have hcO := (zqab HV3.out 0).trans (rfl : _ = some v3); obtain ⟨Ay, cy, ey⟩ := Kd.R_slice hR3; subst ey; clear hp hv3 hR3))
        go_ret2
        exact ⟨_, rfl, HP.out.done (HOO.out.trans HE.out) HV3.out, HP.out.bel⟩
      ·
       rw [if_neg h1] at h
       exact absurd h (by simp)
   ·
    rw [if_neg h8] at h
    exact absurd h (by simp)
  ·
   rw [if_pos h0] at h
   simp only [Option.some.injEq, Prod.mk.injEq] at h
   obtain ⟨rfl, rfl⟩ := h
   have h0b : (ae == 0) = false := beq_eq_false_iff_ne.mpr h0
   go_enter Try.func16, Try.ntmps16
   go_wp2_with (go_at_call 44; refine (HA.out _).mono ?_; rintro e w1 ⟨v0, rfl, hr, hb⟩; have HB1 := Aside0.mk (zqak (zqad (Below.refl _ _) _) hb); obtain ⟨A, c, ev⟩ := Kd.R_slice hr; subst ev; clear hr hb)
   go_ret2
   exact ⟨_, rfl, Kd.R_nil _ _ _ _ _, HB1.out⟩


end Go.Proofs.Ytakemodmdhglnaa.PA
