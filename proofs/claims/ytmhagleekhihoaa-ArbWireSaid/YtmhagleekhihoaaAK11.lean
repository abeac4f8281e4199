import Derived.Test.YtmhagleekhihoaaAK10
namespace Go.AK
open Go Go.RowKit
set_option linter.unusedVariables false
section
variable {P : Program} {T : TT}
variable {nt : Nat} {E : Env} {H : Heap} {w : World} {r : Regs} {a : Act} {o : Oper} {next : Act → World → Prop} {Q : Exit → Act → World → Prop} {K : ARes → Heap → Prop}
theorem aop_copy (hT : TOK P T) (hr : RR nt E r a) (hR : Rel E H w) (hN : Nx E w a o.dst next Q K) {c : Call} (ho : o.op = .call c) (hc : c.callee = .builtin .copy) (ip : Bool) (h : acall P T ip r H c K) : o.wp P a w next Q := by
  obtain ⟨callee, args, tys⟩ := c
  simp only at hc
  subst hc
  simp only [acall] at h
  replace h := evalsK_sound hr h
  obtain ⟨vs, h1, h⟩ := h
  replace h1 : VRL E vs (args.map a.eval).toList := by simpa using h1
  replace h := atT_some h
  obtain ⟨t0, htys, h⟩ := h
  replace h := tiK_some h
  obtain ⟨ti, ht, h⟩ := h
  obtain ⟨d, hd, hdd⟩ := hT.desc ht
  generalize ti.d = D at h hdd
  split at h
  · rename_i e s x
    obtain rfl := desc_sl hdd
    obtain ⟨sv, xv, hargs, hs, hx⟩ := vrl_two h1
    replace h := tiK_some h
    obtain ⟨te, hte, h⟩ := h
    replace h := arow_sound (P := P) hR hx h
    obtain ⟨news, m, vn, h, hvn, hln, ⟨q', cap', hxv⟩, hfn⟩ := h
    split at h
    · rename_i j of_ z' n0 c0
      replace h := h
      replace h := acond_true h
      obtain ⟨hz, hones, h⟩ := h
      obtain rfl := Nat.eq_of_beq_eq_true hz
      replace h := ablk_some h
      obtain ⟨cs, hj, hl, h⟩ := h
      obtain ⟨g, f, q, o', hρ, rfl, hnc, hfit⟩ := hs
      obtain ⟨g', f', b, t', e1, e2, e3⟩ := hR.blk j cs hj
      rw [hρ] at e1
      simp only [Option.some.injEq, Prod.mk.injEq] at e1
      obtain ⟨rfl, rfl, rfl⟩ := e1
      have hlen := hvn.length
      have hmin : min m n0 * te.sz ≤ m * te.sz := Nat.mul_le_mul_right _ (Nat.min_le_left _ _)
      have hmin2 : min m n0 * te.sz ≤ n0 * te.sz := Nat.mul_le_mul_right _ (Nat.min_le_right _ _)
      have hseg : VRL E (news.take (min m n0 * te.sz)) (vn.take (min m n0 * te.sz)) := hvn.vrp.take _ (by omega)
      have hones' : ones (news.take (min m n0 * te.sz)) = true := by
        have : ∀ (xs : List AV) k, ones xs = true → ones (xs.take k) = true := by
          intro xs
          induction xs with
          | nil => intro k _; simp [ones]
          | cons y ys ih => intro k hk; cases k with
            | zero => simp [ones]
            | succ k => simp only [ones, Bool.and_eq_true, List.take_succ_cons] at hk ⊢; exact ⟨hk.1, ih k hk.2⟩
        exact this _ _ hones
      have hmm : Nat.min m n0 = min m n0 := rfl
      have hst : ∃ w', (storeCells ⟨g, o', none⟩ (vn.take (min m n0 * te.sz))).run P w = .ok () w' ∧ Rel E (H.set j (.c (setCells cs of_ (news.take (min m n0 * te.sz))))) w' ∧ Ext E w E w' := by
        rcases hfit with ⟨rfl, hfit⟩ | rfl
        · exact store_run hR hj hρ e2 e3 hseg hones' (by simp; omega)
        · have hn0 : n0 = 0 := by omega
          subst hn0
          have e0 : min m 0 * te.sz = 0 := by simp
          rw [e0] at hseg hones' ⊢
          obtain ⟨w', k1, k2, k3⟩ := store_run (P := P) hR hj hρ e2 e3 (us := []) (vs := []) rfl rfl (o := of_) (by simp; omega)
          cases k1
          exact ⟨w, by simp [storeCells], by simpa using k2, k3⟩
      obtain ⟨w', k1, k2, k3⟩ := hst
      refine hN.val h k3 k2 rfl ?_
      have hf := hfn w rfl (min m n0) (Nat.min_le_left _ _)
      have hlx : (Builtin.lenOf xv).run P w = .ok m w := by rw [hxv]; rfl
      simp only [execOp, ho, resolve, Sem.run_bind, Sem.run_pure, Result.andThen_ok, invoke, builtin, Builtin.copy_, arr_of_toList hargs, htys]
      simp [run_underlying hd, hlx, hT.sizeOf hte, hmm, hf, k1, goInt]
    · exact h.elim
  · exact h.elim
theorem zeroCells_eq (z : Array Value) (n : Nat) : (Builtin.zeroCells z n).toList = (List.replicate n z.toList).flatten := by
  have := madeCells_eq z n
  unfold madeCells at this
  unfold Builtin.zeroCells
  exact this
theorem aop_clear (hT : TOK P T) (hr : RR nt E r a) (hR : Rel E H w) (hN : Nx E w a o.dst next Q K) {c : Call} (ho : o.op = .call c) (hc : c.callee = .builtin .clear) (ip : Bool) (h : acall P T ip r H c K) : o.wp P a w next Q := by
  obtain ⟨callee, args, tys⟩ := c
  simp only at hc
  subst hc
  simp only [acall] at h
  replace h := evalsK_sound hr h
  obtain ⟨vs, h1, h⟩ := h
  replace h1 : VRL E vs (args.map a.eval).toList := by simpa using h1
  replace h := atT_some h
  obtain ⟨t0, htys, h⟩ := h
  replace h := tiK_some h
  obtain ⟨ti, ht, h⟩ := h
  obtain ⟨d, hd, hdd⟩ := hT.desc ht
  generalize ti.d = D at h hdd
  split at h
  · rename_i e j of_ z' n0 c0
    obtain rfl := desc_sl hdd
    obtain ⟨sv, hargs, hs⟩ := vrl_one h1
    replace h := tiK_some h
    obtain ⟨te, hte, h⟩ := h
    replace h := h
    replace h := acond_true h
    obtain ⟨hz, h⟩ := h
    simp only [Bool.and_eq_true] at hz
    obtain ⟨hz, hones⟩ := hz
    obtain rfl := Nat.eq_of_beq_eq_true hz
    replace h := ablk_some h
    obtain ⟨cs, hj, hl, h⟩ := h
    obtain ⟨g, f, q, o', hρ, rfl, hnc, hfit⟩ := hs
    obtain ⟨g', f', b, t', e1, e2, e3⟩ := hR.blk j cs hj
    rw [hρ] at e1
    simp only [Option.some.injEq, Prod.mk.injEq] at e1
    obtain ⟨rfl, rfl, rfl⟩ := e1
    obtain ⟨zv, hz1, hz2, hz3⟩ := hT.zeroValue hte w
    have hzc := (hz2 E).cells (zero_kn hT hte)
    have hzl := hzc.length
    have hseg := flatten_vr hzc n0
    have hones' : ones (List.replicate n0 te.zero.cells).flatten = true := by
      have app : ∀ xs ys : List AV, ones xs = true → ones ys = true → ones (xs ++ ys) = true := by
        intro xs
        induction xs with
        | nil => intro ys _ h; exact h
        | cons y zs ih => intro ys h h'; simp only [ones, Bool.and_eq_true, List.cons_append] at h ⊢; exact ⟨h.1, ih ys h.2 h'⟩
      clear h hseg hfit hnc hl hargs h1
      induction n0 with
      | zero => simp [ones]
      | succ n ih => rw [List.replicate_succ, List.flatten_cons]; exact app _ _ hones ih
    have hfl : (List.replicate n0 te.zero.cells).flatten.length = n0 * te.sz := by
      have : te.zero.cells.length = te.sz := by rw [← hzl]; simpa using hz3
      simp [this]
    have hst : ∃ w', (n0 = 0 ∧ w' = w ∨ n0 ≠ 0 ∧ (storeCells ⟨g, o', none⟩ (Builtin.zeroCells zv.cells n0).toList).run P w = .ok () w') ∧ Rel E (H.set j (.c (setCells cs of_ (List.replicate n0 te.zero.cells).flatten))) w' ∧ Ext E w E w' := by
      by_cases hn0 : n0 = 0
      · subst hn0
        obtain ⟨w', k1, k2, k3⟩ := store_run (P := P) hR hj hρ e2 e3 (us := []) (vs := []) rfl rfl (o := of_) (by simp; omega)
        cases k1
        exact ⟨w, .inl ⟨rfl, rfl⟩, by simpa using k2, k3⟩
      · rcases hfit with ⟨rfl, hfit⟩ | rfl
        · obtain ⟨w', k1, k2, k3⟩ := store_run (P := P) hR hj hρ e2 e3 hseg hones' (o := of_) (by rw [hfl]; omega)
          exact ⟨w', .inr ⟨hn0, by rw [zeroCells_eq]; exact k1⟩, k2, k3⟩
        · omega
    obtain ⟨w', k1, k2, k3⟩ := hst
    refine hN.val h k3 k2 ⟨#[], rfl, rfl⟩ ?_
    simp only [execOp, ho, resolve, Sem.run_bind, Sem.run_pure, Result.andThen_ok, invoke, builtin, Builtin.clear_, arr_of_toList hargs, htys]
    rcases k1 with ⟨rfl, rfl⟩ | ⟨hn0, k1⟩
    · simp [run_underlying hd]
    · obtain ⟨n, rfl⟩ : ∃ n, n0 = n + 1 := ⟨n0 - 1, by omega⟩
      simp [run_underlying hd, hz1, k1]
  · exact h.elim
theorem aop_val (hN : Nx E w a o.dst next Q K) (hR : Rel E H w) (hr : RR nt E r a) (hT : TOK P T) {f : Operand} {args : Array Operand} {tys : Array TypeId} (ho : o.op = .call ⟨.value f, args, tys⟩) (ip : Bool)
    (h : acall P T ip r H ⟨.value f, args, tys⟩ K) : o.wp P a w next Q := by
  simp only [acall] at h
  replace h := evalK_sound hr h
  obtain ⟨fv, h1, h⟩ := h
  replace h := evalsK_sound hr h
  obtain ⟨vs, h2, h⟩ := h
  split at h
  · rename_i g fs cap
    replace h := h
    obtain ⟨⟨fn, hf1, hf2, hf3⟩, h⟩ := h
    obtain ⟨p, q, hfv, h3, h4⟩ := h1
    have hargs : VRL E (fs ++ vs ++ cap) (p ++ args.map a.eval ++ q).toList := by
      simp only [Array.toList_append, Array.toList_map]
      exact (h3.append h2).append h4
    have hcall := h E w _ hR hargs
    unfold Oper.wp
    have hrun : (execOp a.eval o).run P w = .ok (.enter g (p ++ args.map a.eval ++ q)) w := by
      have n1 : ¬ fn.name = "runtime.NumGoroutine" := by simpa using hf2
      have n2 : ¬ fn.body = none := by intro e; rw [e] at hf3; cases hf3
      simp [execOp, ho, resolve, hfv, Deferred.ofValue, invoke, callFunc, hf1, n1, n2]
    rw [hrun]
    refine hcall.mono fun e w' ⟨res, E', H', k1, k2, k3, k4⟩ => ?_
    cases res with
    | ret x =>
      cases e with
      | returned v => exact hN.ret x H' E' w' v k3 k1 k2 k4
      | panicked c => exact k4.elim
      | outgrown => exact k4.elim
    | pan x =>
      cases e with
      | returned v => exact k4.elim
      | panicked c => obtain ⟨v, rfl, k4⟩ := k4; exact hN.pan x H' E' w' v k3 k1 k2 k4
      | outgrown => exact k4.elim
  · exact h.elim
end
end Go.AK
