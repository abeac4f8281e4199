/- Functions of the program, in plain Lean, and their walks (printed; half the indent). Conditions: none. -/
-- PRINTED by print.py (a twelfth state) out of the translation. Not trusted: Lean checks it.
import Derived.Test.YtakemodmdhglnaaPAx0
import Derived.Test.YtakemodmdhglnaaPAx8
import Derived.Test.YtakemodmdhglnaaPAx32
namespace Go.Proofs.Ytakemodmdhglnaa.PA
open Go.RowKit Go.Proofs.YtakemodmdhglnaaW.PrintWords Go.Proofs.YtakemodmdhglnaaW.PrintLast Go.Proofs.YtakemodmdhglnaaW.PrintMore
attribute [local go_sem] zqbb zqaz zqbd zqbe zqax zqay zqba zqbc   -- for this text's walks alone
set_option linter.unusedVariables false
set_option linter.unusedSimpArgs false

/-! HAND stuff_Add: function 64 -/
/-- How many are alike at the end, behind one more. -/
def tellRun (out : List Int) (run x : Int) : Int := if 0 < out.length ∧ rd out ((out.length : Int) - 1) = x then run + 1 else 1
def addStep (st : List Int × Int) (x : Int) : List Int × Int :=
 if tellRun st.1 st.2 x = 5 then (st.1 ++ [x] ++ [1 - x], tellRun (st.1 ++ [x]) 5 (1 - x)) else (st.1 ++ [x], tellRun st.1 st.2 x)
def addAll (l : List Int) : List Int := (l.foldl addStep ([], 0)).1
def stuff_Add.f (l0 : List Int) : Option (List Int) := if chk l0 0 ≥ 0 then some [] else if l0.length ≤ 1000000 then some (addAll l0) else none
/-- What holds while a row is stuffed. -/
structure TellSt (w : World) (b1 b2 : Nat) (W : World) (out : List Int) (run : Int) : Prop where
 bel : Below w.heap.size w W
 size : w.heap.size ≤ W.heap.size
 le1 : w.heap.size ≤ b1
 le2 : w.heap.size ≤ b2
 ne : b1 ≠ b2
 own : ∃ v, W.heap[b1]? = some (.cells #[v] 25 (0, 0)) ∧ Kd.R (Kd.int .i64) 3 W w.heap.size (fun k => k ≠ b1 ∧ k ≠ b2) v out
 crun : W.heap[b2]? = some (.cells #[.int .i64 run] 3 (0, 0))
 ok : 0 ≤ run ∧ run ≤ out.length
theorem TellSt.drewN {w : World} {b1 b2 : Nat} {W : World} {out : List Int} {run : Int} (h : TellSt w b1 b2 W out run) (n : Nat) : TellSt w b1 b2 (W.drewN n) out run := by
 obtain ⟨h1, h2, h3, h4, h5, ⟨v, h6, h7⟩, h8, h9⟩ := h
 exact ⟨zqac h1 n, h2, h3, h4, h5, ⟨v, zqag h6 n, Kd.R_drewN h7 n⟩, zqag h8 n, h9⟩
theorem TellSt.fresh {w : World} {b1 b2 : Nat} {W : World} {out : List Int} {run : Int} (h : TellSt w b1 b2 W out run) : ∀ u : Value, ∀ k, (W.setCell ⟨b2, 0, none⟩ u).heap.size ≤ k → k ≠ b1 ∧ k ≠ b2 := fun u k hk => by
 obtain ⟨v, hv, _⟩ := h.own
 have h1 := blk_lt hv
 have h2 := blk_lt h.crun
 have hs : (W.setCell ⟨b2, 0, none⟩ u).heap.size = W.heap.size := by simp [World.setCell]
 omega
theorem tellRun_le (out : List Int) (run x : Int) (h : 0 ≤ run ∧ run ≤ out.length) : 0 ≤ tellRun out run x ∧ tellRun out run x ≤ (out ++ [x]).length := by
 unfold tellRun
 rw [List.length_append, List.length_singleton]
 split <;> omega
/-- Behind a store of how many are alike, an append, and its store. -/
theorem TellSt.next {w : World} {b1 b2 : Nat} {W W2 : World} {out : List Int} {run x r2 : Int} {v v2 : Value} (h : TellSt w b1 b2 W out run) (hr : r2 = tellRun out run x)
  (hv : W.heap[b1]? = some (.cells #[v] 25 (0, 0)))
  (hR : Kd.R (Kd.int .i64) 3 W2 w.heap.size (fun k => k ≠ b1 ∧ k ≠ b2) v2 (out ++ [x])) (hB : Below w.heap.size w W2) (hg : (W.setCell ⟨b2, 0, none⟩ (.int .i64 r2)).grownBy W2 v.ownBlock) (hR1 : Kd.R (Kd.int .i64) 3 W w.heap.size (fun k => k ≠ b1 ∧ k ≠ b2) v out) :
  TellSt w b1 b2 (W2.setCell ⟨b1, 0, none⟩ v2) (out ++ [x]) r2 := by
 have hne1 : some b1 ≠ v.ownBlock := Kd.R_away hR1 (fun _ hk => hk.1)
 have hne2 : some b2 ≠ v.ownBlock := Kd.R_away hR1 (fun _ hk => hk.2)
 have e1 : W2.heap[b1]? = some (.cells #[v] 25 (0, 0)) := zqaw (zqas hv h.ne _) hg hne1
 have e2 : W2.heap[b2]? = some (.cells #[.int .i64 r2] 3 (0, 0)) := zqaw (zqan h.crun 0 (.int .i64 r2) rfl) hg hne2
 refine ⟨zqah hB h.le1, ?_, h.le1, h.le2, h.ne, ⟨v2, zqan e1 0 v2 rfl, Kd.R_far hR (fun k hk => hk.1) _⟩, zqas e2 (fun e => h.ne e.symm) _, by rw [hr]; exact tellRun_le out run x h.ok⟩
 have := hB.size
 have hs : (W2.setCell ⟨b1, 0, none⟩ v2).heap.size = W2.heap.size := by simp [World.setCell]
 have hl := blk_lt e1
 have := h.le1
 omega
set_option maxHeartbeats 2000000 in
theorem tell.calls (x run : Int) (out : List Int) (b1 b2 : Nat) (w W : World) (h : TellSt w b1 b2 W out run) (hl : out.length ≤ 1000000000) :
  Calls Try.prog 81 #[.int .i64 x, .pointer (some ⟨b1, 0, none⟩), .pointer (some ⟨b2, 0, none⟩)] W fun e w' => e = .returned (.bool (tellRun out run x == 5)) ∧ TellSt w b1 b2 w' (out ++ [x]) (tellRun out run x) := by
 have HH := Aside0.mk h
 obtain ⟨v, hv, hR⟩ := h.own
 obtain ⟨A, c, rfl⟩ := Kd.R_slice hR
 have hrun := h.crun
 have hok := h.ok
 have hc1 : W.cell? ⟨b1, 0, none⟩ = some (.slice A out.length c) := (zqab hv 0).trans rfl
 have hf1 := zqaa hv 0
 have hc2 : W.cell? ⟨b2, 0, none⟩ = some (.int .i64 run) := (zqab hrun 0).trans rfl
 have hcW : ∀ u, (W.setCell ⟨b2, 0, none⟩ u).cell? ⟨b1, 0, none⟩ = some (.slice A out.length c) := fun u => (zqab (zqas hv h.ne u) 0).trans rfl
 have hf2 := zqaa hrun 0
 have HR := Aside0.mk hR
 have HV := Aside0.mk hv
 have HRUN := Aside0.mk hrun
 clear h hR hv hrun
 by_cases h0 : 0 < out.length
 ·
  have hl0 : decide (0 < out.length) = true := decide_eq_true h0
  obtain ⟨ad, e, hx⟩ := Kd.at_int (Kd.R_reads' HR.out).2.2 ((out.length : Int) - 1) (by omega) (by omega)
  cases e
  have hx' : W.cell? (ad.add (out.length - 1)) = some (.int .i64 (rd out ((out.length : Int) - 1))) := by
   have e2 : ((out.length : Int) - 1).toNat = out.length - 1 := by omega
   rw [e2] at hx
   exact hx
  clear hx
  have HL : Aside0 ((out.length + 1) * 8 ≤ 140737488355328) := ⟨by omega⟩
  have HF : Aside0 (∀ u : Value, ∀ k, (W.setCell ⟨b2, 0, none⟩ u).heap.size ≤ k → k ≠ b1 ∧ k ≠ b2) := ⟨HH.out.fresh⟩
  have HX : Aside0 (∀ u : Value, (Value.slice (some ⟨W.heap.size, 0, none⟩) 1 1) = .slice (some ⟨(W.setCell ⟨b2, 0, none⟩ u).heap.size, 0, none⟩) 1 1) := ⟨fun u => by simp [World.setCell]⟩
  have HS : Aside0 (∀ u : Value, w.heap.size ≤ (W.setCell ⟨b2, 0, none⟩ u).heap.size) := ⟨fun u => by have := HH.out.size; simpa [World.setCell] using this⟩
  by_cases hxx : rd out ((out.length : Int) - 1) = x
  ·
   have hb1 : (rd out ((out.length : Int) - 1) == x) = true := beq_iff_eq.mpr hxx
   have HT : Aside0 (run + 1 = tellRun out run x) := ⟨by unfold tellRun; rw [if_pos ⟨h0, hxx⟩]⟩
   clear hxx
   go_enter Try.func81, Try.ntmps81
   go_wp2_with (first | ((with_reducible refine zqao (b := .append) (xs := #[.tmp 20, .tmp 22]) rfl ?_); at_builtin; refine Kd.R_append (Kd.int .i64) (w0 := w) w.heap.size rfl (.tmp 20) (.tmp 22) 25 3 (.int .i64 0) 8 rfl Try.underlying25 info3 rfl (by decide) (by omega) (.slice (some ad) out.length c) out x [.int .i64 x] (fun k => k ≠ b1 ∧ k ≠ b2) (fun _ => False) rfl ?aX ?aP (fun _ hk => hk.elim) ?aF ?aO ?aB ?aS ?aL ?_; (case aX => exact HX.out _); (case aP => exact rfl); (case aF => exact HF.out _); (case aO => exact Kd.R_far HR.out (fun _ hk => hk.2) _); (case aB => exact zqah HH.out.bel HH.out.le2); (case aS => exact HS.out _); (case aL => exact HL.out); intro v1 w1 ho hb hg hat; obtain ⟨Ao, co, eo⟩ := Kd.R_slice ho; subst eo; have HN := Aside0.mk (HH.out.next HT.out HV.out ho hb hg HR.out); have e1 := zqaw (zqas HV.out HH.out.ne _) hg (Kd.R_away HR.out (fun _ hk => hk.1)); have e2 := zqaw (zqan HRUN.out 0 (.int .i64 (run + 1)) rfl) hg (Kd.R_away HR.out (fun _ hk => hk.2)); have c1 : w1.cell? ⟨b1, 0, none⟩ = some (.slice (some ad) out.length c) := (zqab e1 0).trans rfl; have f1 := zqaa e1 0; have c2 : ∀ u, (w1.setCell ⟨b1, 0, none⟩ u).cell? ⟨b2, 0, none⟩ = some (.int .i64 (run + 1)) := fun u => (zqab (zqas e2 (fun e => HH.out.ne e.symm) u) 0).trans rfl; clear ho hb hg hat e1 e2))
   go_ret
   exact ⟨by rw [← HT.out]; first | rfl | simp, by have h_ := HN.out; have e_ := HT.out; simp only [List.length_append, List.length_singleton] at h_; rw [← e_]; exact h_⟩
  ·
   have hb1 : (rd out ((out.length : Int) - 1) == x) = false := beq_eq_false_iff_ne.mpr hxx
   have HT : Aside0 (1 = tellRun out run x) := ⟨by unfold tellRun; rw [if_neg (fun h => hxx h.2)]⟩
   clear hxx
   go_enter Try.func81, Try.ntmps81
   go_wp2_with (first | ((with_reducible refine zqao (b := .append) (xs := #[.tmp 20, .tmp 22]) rfl ?_); at_builtin; refine Kd.R_append (Kd.int .i64) (w0 := w) w.heap.size rfl (.tmp 20) (.tmp 22) 25 3 (.int .i64 0) 8 rfl Try.underlying25 info3 rfl (by decide) (by omega) (.slice (some ad) out.length c) out x [.int .i64 x] (fun k => k ≠ b1 ∧ k ≠ b2) (fun _ => False) rfl ?aX ?aP (fun _ hk => hk.elim) ?aF ?aO ?aB ?aS ?aL ?_; (case aX => exact HX.out _); (case aP => exact rfl); (case aF => exact HF.out _); (case aO => exact Kd.R_far HR.out (fun _ hk => hk.2) _); (case aB => exact zqah HH.out.bel HH.out.le2); (case aS => exact HS.out _); (case aL => exact HL.out); intro v1 w1 ho hb hg hat; obtain ⟨Ao, co, eo⟩ := Kd.R_slice ho; subst eo; have HN := Aside0.mk (HH.out.next HT.out HV.out ho hb hg HR.out); have e1 := zqaw (zqas HV.out HH.out.ne _) hg (Kd.R_away HR.out (fun _ hk => hk.1)); have e2 := zqaw (zqan HRUN.out 0 (.int .i64 1) rfl) hg (Kd.R_away HR.out (fun _ hk => hk.2)); have c1 : w1.cell? ⟨b1, 0, none⟩ = some (.slice (some ad) out.length c) := (zqab e1 0).trans rfl; have f1 := zqaa e1 0; have c2 : ∀ u, (w1.setCell ⟨b1, 0, none⟩ u).cell? ⟨b2, 0, none⟩ = some (.int .i64 1) := fun u => (zqab (zqas e2 (fun e => HH.out.ne e.symm) u) 0).trans rfl; clear ho hb hg hat e1 e2))
   go_ret
   exact ⟨by rw [← HT.out]; first | rfl | simp, by have h_ := HN.out; have e_ := HT.out; simp only [List.length_append, List.length_singleton] at h_; rw [← e_]; exact h_⟩
 ·
  have hl0 : decide (0 < out.length) = false := decide_eq_false h0
  have HT : Aside0 (1 = tellRun out run x) := ⟨by unfold tellRun; rw [if_neg (fun h => h0 h.1)]⟩
  have HL : Aside0 ((out.length + 1) * 8 ≤ 140737488355328) := ⟨by omega⟩
  have HF : Aside0 (∀ u : Value, ∀ k, (W.setCell ⟨b2, 0, none⟩ u).heap.size ≤ k → k ≠ b1 ∧ k ≠ b2) := ⟨HH.out.fresh⟩
  have HX : Aside0 (∀ u : Value, (Value.slice (some ⟨W.heap.size, 0, none⟩) 1 1) = .slice (some ⟨(W.setCell ⟨b2, 0, none⟩ u).heap.size, 0, none⟩) 1 1) := ⟨fun u => by simp [World.setCell]⟩
  have HS : Aside0 (∀ u : Value, w.heap.size ≤ (W.setCell ⟨b2, 0, none⟩ u).heap.size) := ⟨fun u => by have := HH.out.size; simpa [World.setCell] using this⟩
  go_enter Try.func81, Try.ntmps81
  go_wp2_with (first | ((with_reducible refine zqao (b := .append) (xs := #[.tmp 20, .tmp 22]) rfl ?_); at_builtin; refine Kd.R_append (Kd.int .i64) (w0 := w) w.heap.size rfl (.tmp 20) (.tmp 22) 25 3 (.int .i64 0) 8 rfl Try.underlying25 info3 rfl (by decide) (by omega) (.slice A out.length c) out x [.int .i64 x] (fun k => k ≠ b1 ∧ k ≠ b2) (fun _ => False) rfl ?aX ?aP (fun _ hk => hk.elim) ?aF ?aO ?aB ?aS ?aL ?_; (case aX => exact HX.out _); (case aP => exact rfl); (case aF => exact HF.out _); (case aO => exact Kd.R_far HR.out (fun _ hk => hk.2) _); (case aB => exact zqah HH.out.bel HH.out.le2); (case aS => exact HS.out _); (case aL => exact HL.out); intro v1 w1 ho hb hg hat; obtain ⟨Ao, co, eo⟩ := Kd.R_slice ho; subst eo; have HN := Aside0.mk (HH.out.next HT.out HV.out ho hb hg HR.out); have e1 := zqaw (zqas HV.out HH.out.ne _) hg (Kd.R_away HR.out (fun _ hk => hk.1)); have e2 := zqaw (zqan HRUN.out 0 (.int .i64 1) rfl) hg (Kd.R_away HR.out (fun _ hk => hk.2)); have c1 : w1.cell? ⟨b1, 0, none⟩ = some (.slice A out.length c) := (zqab e1 0).trans rfl; have f1 := zqaa e1 0; have c2 : ∀ u, (w1.setCell ⟨b1, 0, none⟩ u).cell? ⟨b2, 0, none⟩ = some (.int .i64 1) := fun u => (zqab (zqas e2 (fun e => HH.out.ne e.symm) u) 0).trans rfl; clear ho hb hg hat e1 e2))
  go_ret
  exact ⟨by rw [← HT.out]; first | rfl | simp, by have h_ := HN.out; have e_ := HT.out; simp only [List.length_append, List.length_singleton] at h_; rw [← e_]; exact h_⟩
theorem addStep_len (st : List Int × Int) (x : Int) : (addStep st x).1.length ≤ st.1.length + 2 := by
 unfold addStep
 split <;> simp
theorem addFold_at (l : List Int) (k : Nat) (hk : k < l.length) (s : List Int × Int) : (l.drop k).foldl addStep s = (l.drop (k + 1)).foldl addStep (addStep s (rd l (k : Int))) := by
 rw [List.drop_eq_getElem_cons hk]
 simp only [List.foldl_cons, rd, Int.toNat_natCast, List.getD_eq_getElem?_getD, List.getElem?_eq_getElem hk, Option.getD_some]
/-- At the loop's head. -/
structure AddSt (w : World) (b1 b2 : Nat) (l : List Int) (k : Nat) (W : World) : Prop where
 st : ∃ out run, TellSt w b1 b2 W out run ∧ ((l.drop k).foldl addStep (out, run)).1 = addAll l ∧ out.length ≤ 2 * k
theorem AddSt.start {w w4 : World} {v : Value} {l : List Int} (hb : Below w.heap.size w w4) (hR : Kd.R (Kd.int .i64) 3 w4 w.heap.size (fun _ => True) v []) :
  AddSt w w4.heap.size (w4.heap.size + 1) l 0 ((w4.alloc (.cells #[v] 25)).alloc (.cells #[.int .i64 0] 3)) := by
 have hs := hb.size
 refine ⟨[], 0, ⟨(hb.alloc hb.size _).alloc ?_ _, ?_, hs, ?_, by omega, ⟨v, zqaf (blk_new w4 _) _, ?_⟩, ?_, by simp⟩, rfl, by simp⟩
 ·
  rw [World.size_alloc]; omega
 ·
  rw [World.size_alloc, World.size_alloc]; omega
 ·
  omega
 ·
  refine Kd.R_alloc (Kd.R_alloc (Kd.R_mono (Kd.R_bound hR) (fun k hk => ?_)) _) _
  have := hk.2.2.1
  omega
 ·
  have h := blk_new (w4.alloc (.cells #[v] 25)) (.cells #[.int .i64 0] 3)
  rwa [World.size_alloc] at h
theorem AddSt.at_ {w : World} {b1 b2 : Nat} {l : List Int} {k : Nat} {W : World} (h : AddSt w b1 b2 l k W) (n : Nat) : AddSt w b1 b2 l k (W.drewN n) := by
 obtain ⟨out, run, h1, h2, h3⟩ := h.st
 exact ⟨out, run, h1.drewN n, h2, h3⟩
set_option maxHeartbeats 2000000 in
theorem stuff_Add.calls (A0 : Option Addr) (c0 : Nat) (l0 : List Int) (r : List Int) (w : World) (hr0 : Kd.C (Kd.int .i64) w A0 l0.length l0) (hc0 : l0.length ≤ c0) (h : stuff_Add.f l0 = some r) :
  Calls Try.prog 64 #[.slice A0 l0.length c0] w fun e w' => ∃ v0_ : Value, e = .returned (v0_) ∧ Kd.R (Kd.int .i64) 3 w' w.heap.size (fun _ => True) v0_ r ∧ Below w.heap.size w w' := by
 unfold stuff_Add.f at h
 have HC := Aside0.mk (bits_Check.calls A0 c0 l0 (chk l0 0) w hr0 hc0 rfl)
 have HR0 := Aside0.mk hr0
 clear hr0 hc0
 by_cases c : chk l0 0 ≥ 0
 ·
  rw [if_pos c] at h
  simp only [Option.some.injEq] at h
  subst h
  go_enter Try.func64, Try.ntmps64
  go_wp2_with (go_at_call 53; refine HC.out.mono ?_; rintro e w' ⟨rfl, ⟨n, rfl⟩⟩)
  go_ret
  exact ⟨_, rfl, Kd.R_nil _ _ _ _ _, zqac (Below.refl _ _) _⟩
 ·
  rw [if_neg c] at h
  by_cases hlen : l0.length ≤ 1000000
  ·
   rw [if_pos hlen] at h
   simp only [Option.some.injEq] at h
   have HE := Aside0.mk h
   clear h
   have HLV : Aside0 (∀ k, k < l0.length → rd l0 (k : Int) = 0 ∨ rd l0 (k : Int) = 1) := ⟨chk_at (by omega)⟩
   have cb : decide (0 ≤ chk l0 0) = false := decide_eq_false c
   clear c
   generalize chk l0 0 = rc at HC cb
   have hmf : ∀ (fn : Fn) (first cap : Array Value) (w : World), (Instr.makeFunc fn first cap).run Try.prog w = .ok (.func fn first cap) w := fun _ _ _ _ => rfl
   go_enter Try.func64, Try.ntmps64
   have hz1 : 0 ≤ (l0.length : Int) + (l0.length : Int) / 4 := by omega
   have hz2 : ((l0.length : Int) + (l0.length : Int) / 4).toNat * 8 ≤ 281474976710656 := by omega
   have HZ := Aside0.mk (And.intro hz1 hz2)
   clear hz1 hz2
   go_wp2_with (first | (go_at_call 53; refine HC.out.mono ?_; rintro e w1 ⟨rfl, hd⟩; have HB1 := Aside0.mk hd.below; have HR1 := Aside0.mk (Kd.C_below HR0.out hd.below); clear hd) | ((with_reducible refine zqar (N := 17) rfl ?_); refine R_make0 (Kd.int .i64) _ 3 rfl (N := 17) rfl 25 _ _ rfl ((l0.length : Int) + (l0.length : Int) / 4) rfl rfl Try.underlying25 (.int .i64 0) 8 info3 rfl (by decide) (by omega) 0 (ok := fun _ => True) (okp := fun _ => True) rfl (fun _ hk => hk) trivial HZ.out.1 HZ.out.2 (Below.refl _ _) (Nat.le_refl _) ?_; intro v1 w4 ho hb hg_ hnew_; clear hg_ hnew_; obtain ⟨Ao, co, eo⟩ := Kd.R_slice ho; subst eo; have HO := Aside0.mk ho; have HB4 := Aside0.mk hb; clear ho hb))
   go_loopw [21] (fun i wr => ∃ k : Nat, k ≤ l0.length ∧ i = .int .i64 k ∧ Aside0 (AddSt w1 w4.heap.size (w4.heap.size + 1) l0 k wr)) (fun i _ => l0.length - (intOf i).toNat)
   case atStart => exact ⟨0, Nat.zero_le _, rfl, ⟨AddSt.start HB4.out HO.out⟩⟩
   case round =>
    obtain ⟨k, hk, rfl, HA⟩ := hrel
    by_cases hlt : k < l0.length
    ·
     obtain ⟨out, run, hT, hF, hlo⟩ := HA.out.st
     clear HA
     obtain ⟨ad, e, hx⟩ := Kd.at_int HR1.out (k : Int) (by omega) (by omega)
     cases e
     simp only [Int.toNat_natCast] at hx
     replace hx := (hT.bel.cell (World.block_lt_of_cell? w1 _ hx)).trans hx
     have hlev := HLV.out k hlt
     rw [addFold_at l0 k hlt] at hF
     generalize rd l0 (k : Int) = x at hx hlev hF
     by_cases h5 : tellRun out run x = 5
     ·
      have hst : addStep (out, run) x = (out ++ [x] ++ [1 - x], tellRun (out ++ [x]) 5 (1 - x)) := by unfold addStep; rw [if_pos h5]
      rw [hst] at hF
      have h2 : tellRun (out ++ [x]) 5 (1 - x) = 1 := by
       unfold tellRun
       rw [if_neg]
       intro hc
       have e : rd (out ++ [x]) (((out ++ [x]).length : Int) - 1) = x := by
        have e1 : (((out ++ [x]).length : Int) - 1).toNat = out.length := by rw [List.length_append, List.length_singleton]; omega
        simp only [rd, e1]
        simp
       rw [e] at hc
       omega
      have HT1 := Aside0.mk (tell.calls x run out w4.heap.size (w4.heap.size + 1) w1 wr hT (by omega))
      rw [h5] at HT1
      have HO1 := Aside0.mk (fun w => stuff_other.calls x (1 - x) w (by unfold stuff_other.f; rw [show wrap64 (1 - x) = 1 - x from by unfold wrap64; omega]))
      have HF := Aside0.mk hF
      have HLO : Aside0 (out.length ≤ 2 * k) := ⟨hlo⟩
      have H2 := Aside0.mk h2
      clear hF h5 hst hlev hlo hT h2
      go_wp2_with fail
      refine HT1.out.mono ?_
      rintro e w2 ⟨rfl, ht⟩
      have HT2 := Aside0.mk ht
      clear ht
      go_wp2_with fail
      refine (HO1.out _).mono ?_
      rintro e w3 ⟨rfl, ⟨n, rfl⟩⟩
      have HT3 := Aside0.mk (tell.calls (1 - x) 5 (out ++ [x]) w4.heap.size (w4.heap.size + 1) w1 _ (HT2.out.drewN n) (by have := HLO.out; rw [List.length_append, List.length_singleton]; omega))
      rw [H2.out] at HT3
      go_wp2_with fail
      refine HT3.out.mono ?_
      rintro e w5 ⟨rfl, ht⟩
      have HT4 := Aside0.mk ht
      clear ht
      go_wp2_with fail
      rw [H2.out] at HF
      refine ⟨⟨k + 1, by omega, by go_num, ⟨_, _, HT4.out, HF.out, ?_⟩⟩, by simp [intOf]; omega⟩
      have := HLO.out
      rw [List.length_append, List.length_append, List.length_singleton, List.length_singleton]
      omega
     ·
      have hb5 : (tellRun out run x == 5) = false := beq_eq_false_iff_ne.mpr h5
      have hst : addStep (out, run) x = (out ++ [x], tellRun out run x) := by unfold addStep; rw [if_neg h5]
      rw [hst] at hF
      have HT1 := Aside0.mk (tell.calls x run out w4.heap.size (w4.heap.size + 1) w1 wr hT (by omega))
      rw [hb5] at HT1
      have HF := Aside0.mk hF
      have HLO : Aside0 (out.length ≤ 2 * k) := ⟨hlo⟩
      clear hF h5 hst hlev hb5 hlo hT
      go_wp2_with (go_at_call 81; refine HT1.out.mono ?_; rintro e w2 ⟨rfl, ht⟩; have HT2 := Aside0.mk ht; clear ht)
      refine ⟨⟨k + 1, by omega, by go_num, ⟨_, _, HT2.out, HF.out, ?_⟩⟩, by simp [intOf]; omega⟩
      have := HLO.out
      rw [List.length_append, List.length_singleton]
      omega
    ·
     obtain ⟨out, run, hT, hF, hlo⟩ := HA.out.st
     obtain ⟨v, hv, hR⟩ := hT.own
     obtain ⟨A, c, eo⟩ := Kd.R_slice hR
     subst eo
     have hc1 : wr.cell? ⟨w4.heap.size, 0, none⟩ = some (.slice A out.length c) := (zqab hv 0).trans rfl
     have HR := Aside0.mk hR
     have HB := Aside0.mk hT.bel
     have HF : Aside0 (out = r) := ⟨by rw [← HE.out, ← hF, List.drop_eq_nil_of_le (by omega)]; rfl⟩
     clear hR hT hF hv hlo HA
     go_wp2
     go_ret
     refine ⟨_, rfl, ?_, zqbf HB1.out HB1.out.size HB.out⟩
     rw [← HF.out]
     exact Kd.R_lower (Kd.R_mono HR.out (fun _ _ => trivial)) HB1.out.size
  ·
   rw [if_neg hlen] at h
   exact absurd h (by simp)


end Go.Proofs.Ytakemodmdhglnaa.PA
