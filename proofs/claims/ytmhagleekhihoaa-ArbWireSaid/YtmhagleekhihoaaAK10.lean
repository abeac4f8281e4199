import Derived.Test.YtmhagleekhihoaaAK9
namespace Go.AK
open Go Go.RowKit
set_option linter.unusedVariables false
section
variable {P : Program} {T : TT}
/-- What follows an operation. -/
structure Nx (E : Env) (w : World) (a : Act) (dst : Option Tmp) (next : Act → World → Prop) (Q : Exit → Act → World → Prop) (K : ARes → Heap → Prop) : Prop where
  ret : ∀ x H' E' w' v, K (.ret x) H' → Ext E w E' w' → Rel E' H' w' → VR E' x v → next (a.put dst v) w'
  pan : ∀ x H' E' w' v, K (.pan x) H' → Ext E w E' w' → Rel E' H' w' → VR E' x v → Q (.panic [{ v, recovered := false }]) a w'
theorem Rel.imOK {E : Env} {H : Heap} {w : World} (h : Rel E H w) : ImOK E w := h.im
variable {nt : Nat} {E : Env} {H : Heap} {w : World} {r : Regs} {a : Act} {o : Oper} {next : Act → World → Prop} {Q : Exit → Act → World → Prop} {K : ARes → Heap → Prop}
theorem Nx.val (hN : Nx E w a o.dst next Q K) {x : AV} {H' : Heap} {E' : Env} {w' : World} {v : Value} (hk : K (.ret x) H') (he : Ext E w E' w') (hR : Rel E' H' w') (hv : VR E' x v)
    (hr : (execOp a.eval o).run P w = .ok (.value v) w') : o.wp P a w next Q := by
  unfold Oper.wp; rw [hr]; exact hN.ret x H' E' w' v hk he hR hv
theorem Nx.skip (hN : Nx E w a o.dst next Q K) {H' : Heap} {E' : Env} {w' : World} (hk : K (.ret (.tup [])) H') (he : Ext E w E' w') (hR : Rel E' H' w')
    (hr : (execOp a.eval o).run P w = .ok .skip w') : o.wp P a w next Q := by
  unfold Oper.wp; rw [hr]; exact hN.ret _ H' E' w' undef hk he hR ⟨#[], rfl, rfl⟩
theorem Nx.sil (hN : Nx E w a o.dst next Q K) (hR : Rel E H w) (h : SilN P E (execOp a.eval o) fun v => K (.ret v) H) : o.wp P a w next Q := by
  obtain ⟨y, v, h1, h2, h3⟩ := h
  exact hN.val h2 (.refl E w) hR h1 (h3 w hR.im)
theorem kn_of_one {x : AV} (h : ones x.cells = true) : x ≠ .un := fun e => by subst e; simp [AV.cells, ones, AV.one] at h
/-- A new row of cells. -/
theorem Nx.new (hN : Nx E w a o.dst next Q K) (hR : Rel E H w) {cs : List AV} {c : Array Value} {t : TypeId} (hv : VRL E cs c.toList) {y : AV} {v : Value}
    (hy : ∀ E' : Env, E'.ρ[H.length]? = some (w.heap.size, 0, c.size) → VR E' y v) (hk : K (.ret y) (H ++ [.c cs])) (hr : (execOp a.eval o).run P w = .ok (.value v) (w.alloc (.cells c t (0, 0)))) : o.wp P a w next Q := by
  obtain ⟨h1, h2⟩ := hR.alloc (t := t) 0 (show VRP E cs (c.toList.drop 0) by simpa using hv.vrp)
  refine hN.val hk h2 h1 (hy _ ?_) hr
  simp only [Env.push]; rw [← hR.len, List.getElem?_append_right (Nat.le_refl _)]; simp
theorem flatten_vr {E : Env} {xs : List AV} {vs : List Value} (h : VRL E xs vs) : ∀ n, VRL E (List.replicate n xs).flatten (List.replicate n vs).flatten
  | 0 => rfl
  | n + 1 => by
    simp only [List.replicate_succ, List.flatten_cons]
    exact h.append (flatten_vr h n)
theorem madeCells_eq (z : Array Value) (n : Nat) : (madeCells z (n * z.size)).toList = (List.replicate n z.toList).flatten := by
  unfold madeCells
  simp only [Array.toList_map, Array.toList_range]
  induction n with
  | zero => simp
  | succ n ih =>
    rw [Nat.succ_mul, List.range_add, List.map_append, ih, List.replicate_succ', List.flatten_append]
    simp only [List.flatten_singleton, List.map_map]
    congr 1
    apply List.ext_getElem
    · simp
    · intro i h1 h2
      simp only [List.length_map, List.length_range] at h1
      have : (n * z.size + i) % z.size = i := by rw [Nat.mul_comm, Nat.mul_add_mod]; exact Nat.mod_eq_of_lt h1
      simp [this, h1]
theorem zeroCells_eq' (z : Array Value) (n : Nat) : (Builtin.zeroCells z n).toList = (List.replicate n z.toList).flatten := by
  have := madeCells_eq z n
  unfold madeCells at this
  unfold Builtin.zeroCells
  exact this
theorem aop_store (hT : TOK P T) (hr : RR nt E r a) (hR : Rel E H w) (hN : Nx E w a o.dst next Q K) {t : TypeId} {x y : Operand} (ho : o.op = .store t x y) (ip : Bool) (h : aop P T ip r H (.store t x y) K) : o.wp P a w next Q := by
  simp only [aop] at h
  replace h := evalK_sound hr h
  obtain ⟨v, h1, h⟩ := h
  replace h := evalK_sound hr h
  obtain ⟨u, h2, h⟩ := h
  replace h := tiK_some h
  obtain ⟨ti, ht, h⟩ := h
  split at h
  · rename_i j of_
    replace h := acond_true h
    obtain ⟨hb, h⟩ := h
    simp only [Bool.and_eq_true] at hb
    replace h := ablk_some h
    obtain ⟨cs, hj, hfit, h⟩ := h
    have hl : u.cells.length = ti.sz := Nat.eq_of_beq_eq_true hb.2
    obtain ⟨g, f, q, hρ, hv⟩ := h1
    obtain ⟨g', f', b, t', e1, e2, e3⟩ := hR.blk j cs hj
    rw [hρ] at e1
    simp only [Option.some.injEq, Prod.mk.injEq] at e1
    obtain ⟨rfl, rfl, rfl⟩ := e1
    have hu := h2.cells (kn_of_one hb.1)
    obtain ⟨w', h3, h4, h5⟩ := store_run (P := P) hR hj hρ e2 e3 hu hb.1 (o := of_) (by omega)
    refine hN.skip h h5 h4 ?_
    have hsz : (a.eval y).cells.size = ti.sz := by rw [← Array.length_toList, hu.length, hl]
    simp only [execOp, ho, Instr.storeAt, hv, Instr.sureAddr, storeVar, Sem.run_bind, Sem.run_pure, Result.andThen_ok, hT.sizeOf ht, hsz, ne_eq, not_true_eq_false, if_false, h3]
  · exact h.elim
theorem arow_nil {H : Heap} {z z' n c : Nat} {K : List AV → Nat → Prop} (h : arow H z (.sl none z' n c) K) : K [] 0 := h
theorem arow_own {j of_ z z' n c : Nat} (hR : Rel E H w) {a : Value} (hv : VR E (.sl (some (j, of_)) z' n c) a) {K : List AV → Nat → Prop} (h : arow H z (.sl (some (j, of_)) z' n c) K) :
    z' = z ∧ ∃ cs g f b t o', H[j]? = some (.c cs) ∧ E.ρ[j]? = some (g, f, b.size) ∧ w.heap[g]? = some (.cells b t (0, 0)) ∧ VRP E cs (b.toList.drop f) ∧ of_ + n * z ≤ cs.length ∧
      a = .slice (some ⟨g, o', none⟩) n c ∧ n ≤ c ∧ (o' = f + of_ ∧ f + of_ + c * z ≤ b.size ∨ c = 0) ∧ K ((cs.drop of_).take (n * z)) n ∧ VRL E ((cs.drop of_).take (n * z)) ((b.toList.drop (f + of_)).take (n * z)) ∧
      ∀ w' : World, w'.heap = w.heap → (Builtin.firstCells z n a).run P w' = .ok ((b.toList.drop (f + of_)).take (n * z)).toArray w' := by
  replace h := acond_true h
  obtain ⟨hz, h⟩ := h
  obtain rfl := Nat.eq_of_beq_eq_true hz
  obtain ⟨cs, hj, hl, h⟩ := ablk_some h
  obtain ⟨g, f, q, o', hρ, rfl, hnc, hfit⟩ := hv
  obtain ⟨g', f', b, t, e1, e2, e3⟩ := hR.blk j cs hj
  rw [hρ] at e1
  simp only [Option.some.injEq, Prod.mk.injEq] at e1
  obtain ⟨rfl, rfl, rfl⟩ := e1
  have hbl := e3.length
  simp only [List.length_drop, Array.length_toList] at hbl
  have hseg := (e3.drop of_).take (n * z') (by simp; omega)
  rw [List.drop_drop] at hseg
  refine ⟨rfl, cs, g, f, b, t, o', hj, hρ, e2, e3, hl, rfl, hnc, hfit, h, hseg, fun w' hw => ?_⟩
  rcases hfit with ⟨rfl, hfit⟩ | rfl
  · have hnz : n * z' ≤ c * z' := Nat.mul_le_mul_right _ hnc
    refine run_firstCells_some w' z' n ⟨g, f + of_, none⟩ n c _ (by simp; omega) fun k u hk => ?_
    rw [add_zero_addr, cell_of (hw ▸ e2)]
    rw [List.getElem?_take] at hk
    split at hk
    · rw [List.getElem?_drop] at hk; rw [← Array.getElem?_toList]; exact hk
    · cases hk
  · have hn0 : n = 0 := by omega
    subst hn0
    simp [Builtin.firstCells, loadCells, loadCellsFrom]
theorem aop_append (hT : TOK P T) (hr : RR nt E r a) (hR : Rel E H w) (hN : Nx E w a o.dst next Q K) {c : Call} (ho : o.op = .call c) (hc : c.callee = .builtin .append) (ip : Bool) (h : acall P T ip r H c K) : o.wp P a w next Q := by
  obtain ⟨callee, args, tys⟩ := c
  simp only at hc
  subst hc
  simp only [acall] at h
  replace h := evalsK_sound hr h
  obtain ⟨vs, h1, h⟩ := h
  replace h1 : VRL E vs (args.map a.eval).toList := by simpa using h1
  replace h := atT_some h
  obtain ⟨t0, htys, h⟩ := h
  replace h := tiK_some h
  obtain ⟨ti, ht, h⟩ := h
  obtain ⟨d, hd, hdd⟩ := hT.desc ht
  generalize ti.d = D at h hdd
  split at h
  · rename_i e s x
    obtain rfl := desc_sl hdd
    obtain ⟨sv, xv, hargs, hs, hx⟩ := vrl_two h1
    replace h := atT_some h
    obtain ⟨t1, htys1, h⟩ := h
    replace h := tiK_some h
    obtain ⟨tx, htx, h⟩ := h
    replace h := tiK_some h
    obtain ⟨te, hte, h⟩ := h
    obtain ⟨d1, hd1, hdd1⟩ := hT.desc htx
    obtain ⟨i, zv, hi1, hi2, hi3, hi4, hi5, hi6⟩ := hT.info hte
    generalize tx.d = D1 at h hdd1
    split at h
    · rename_i e1
      obtain rfl := desc_sl hdd1
      unfold aappend at h
      have hcall : ∀ v w', (Builtin.append_ #[t0, t1] o.type #[sv, xv]).run P w = .ok v w' → (execOp a.eval o).run P w = .ok (.value v) w' := by
        intro v w' hrun
        have hA : (Builtin.append_ tys o.type (args.map a.eval)) = Builtin.append_ #[t0, t1] o.type #[sv, xv] := by
          rw [arr_of_toList hargs]
          simp only [Builtin.append_, htys, htys1]
          rfl
        simp only [execOp, ho, resolve, Sem.run_bind, Sem.run_pure, Result.andThen_ok, invoke, builtin, hA, hrun]
      have hnum : ∀ k, TypeDesc.slice e1 ≠ .int k := nofun
      have xs : ∀ {K' : List AV → Nat → Prop}, arow H te.sz x K' → ∃ news m vn q' cap', K' news m ∧ VRL E news vn ∧ vn.length = m * te.sz ∧ xv = .slice q' m cap' ∧
          ∀ w' : World, w'.heap = w.heap → (Builtin.firstCells i.size m (.slice q' m cap')).run P w' = .ok vn.toArray w' := by
        intro K' h
        obtain ⟨news, m, vn, h, hvn, hln, ⟨q', cap', hxv⟩, hfn⟩ := arow_sound (P := P) hR hx h
        refine ⟨news, m, vn, q', cap', h, hvn, hln, hxv, fun w' hw => ?_⟩
        have := hfn w' hw m (Nat.le_refl _)
        rw [List.take_of_length_le (by omega)] at this
        rw [hi2, ← hxv]; exact this
      have big : ∀ {n cap m : Nat} {q q' : Option Addr} {cap' : Nat} {vo vn : List Value}, sv = .slice q n cap → xv = .slice q' m cap' →
          (∀ w' : World, w'.heap = w.heap → (Builtin.firstCells i.size n (.slice q n cap)).run P w' = .ok vo.toArray w') →
          (∀ w' : World, w'.heap = w.heap → (Builtin.firstCells i.size m (.slice q' m cap')).run P w' = .ok vn.toArray w') → cap < n + m → (n + m) * 2 * te.by_ ≤ 281474976710656 → (n + m) * 2 ≤ 9223372036854775807 → ∃ C, n + m ≤ C ∧
          (Builtin.append_ #[t0, t1] o.type #[sv, xv]).run P w = .ok (.slice (some ⟨w.heap.size, 0, none⟩) (n + m) C) (w.drew.alloc (.cells (vo.toArray ++ vn.toArray ++ Builtin.zeroCells zv.cells (C - (n + m))) e)) := by
        intro n cap m q q' cap' vo vn hsv hxv hfo' hfn' hg hb1 hb2
        have hnx := nextslicecap_le (need := n + m) (old := cap) hg
        rw [hsv, hxv]
        refine ⟨grownCap w (n + m) cap e, ?_, run_append_B hd hd1 hnum hi1 hi4 hfo' hfn' hg (by omega) ?_⟩
        · unfold grownCap Question.cut; simp only; omega
        · rw [hi3]
          calc Builtin.nextslicecap (n + m) cap * te.by_ ≤ (2 * (n + m)) * te.by_ := Nat.mul_le_mul_right _ hnx
            _ = (n + m) * 2 * te.by_ := by rw [Nat.mul_comm 2]
            _ ≤ _ := hb1
      have hRd := hR.heap (w' := w.drew) rfl
      have lastP : ∀ x : Nat × Nat × Nat, (E.push x).ρ[H.length]? = some x := fun x => by simp only [Env.push]; rw [← hR.len, List.getElem?_append_right (Nat.le_refl _)]; simp
      cases s with
      | sl aa z' n0 c0 =>
        rcases aa with _ | ⟨j, of_⟩
        · replace h := arow_nil h
          obtain ⟨news, m, vn, q', cap', h, hvn, hln, hxv, hfn'⟩ := xs h
          obtain ⟨rfl, rfl, hsv⟩ := hs
          cases hm : Nat.beq m 0 with
          | true =>
            rw [hm] at h
            have h : K (.ret (.sl none te.sz 0 0)) H := h
            have hm0 : m = 0 := Nat.eq_of_beq_eq_true hm
            subst hm0
            have hrun := run_append_A (ty := o.type) hd hd1 hnum hi1 (q := none) (n := 0) (c := 0) (news := vn) (hfn' w rfl) (Nat.le_refl _) (w' := w) (by simp) (by simp)
            exact hN.val h (.refl E w) hR ⟨rfl, rfl, rfl⟩ (hcall _ _ (by rw [hsv, hxv]; exact hrun))
          | false =>
            rw [hm] at h
            obtain ⟨hones, hb1, hb2, h⟩ := h
            have hm0 : m ≠ 0 := fun e => by subst e; simp at hm
            obtain ⟨C, hC, hrun⟩ := big (vo := []) hsv hxv (fun w' _ => by simp [Builtin.firstCells]) hfn' (by omega) (by simpa using hb1) (by simpa using hb2)
            simp only [Nat.zero_add] at hC hrun
            obtain ⟨k1, k2⟩ := hRd.alloc (cs := news) (c := (#[] ++ vn.toArray ++ Builtin.zeroCells zv.cells (C - m))) (t := e) 0 (by simpa using hvn.pfx _)
            refine hN.val (h C hC) ((Ext.drew E w).trans k2) k1 ?_ (hcall _ _ hrun)
            refine ⟨w.heap.size, 0, (#[] ++ vn.toArray ++ Builtin.zeroCells zv.cells (C - m)).size, 0, lastP _, rfl, hC, .inl ⟨rfl, ?_⟩⟩
            simp [size_zeroCells, hln, hi6]
            have : m * te.sz + (C - m) * te.sz = C * te.sz := by rw [← Nat.add_mul]; congr 1; omega
            omega
        · obtain ⟨rfl, cs, g, f, b, t', o', hj, hρ, hg, hv, hl, hsv, hnc, hfit, h, hseg, hfo2⟩ := arow_own (P := P) hR hs h
          replace h : arow H te.sz x _ := h
          obtain ⟨news, m, vn, q', cap', h, hvn, hln, hxv, hfn'⟩ := xs h
          have hbl := hv.length
          simp only [List.length_drop, Array.length_toList] at hbl
          have hones : ones news = true := by
            cases ip
            · exact h.1
            · exact h.1
          have hlen := hvn.length
          cases ip with
          | true =>
            obtain ⟨_, hnm, h⟩ := h
            obtain ⟨cs', hj', hl', h⟩ := ablk_some h
            rw [hj] at hj'
            cases hj'
            have hsplit : (n0 + m) * te.sz = n0 * te.sz + m * te.sz := Nat.add_mul ..
            have hst : ∃ w', (storeCells ((⟨g, o', none⟩ : Addr).add (n0 * i.size)) vn).run P w = .ok () w' ∧ Rel E (H.set j (.c (setCells cs (of_ + n0 * te.sz) news))) w' ∧ Ext E w E w' := by
              rcases hfit with ⟨rfl, hfit⟩ | rfl
              · rw [add_zero_addr, hi2, show f + of_ + n0 * te.sz = f + (of_ + n0 * te.sz) from Nat.add_assoc ..]
                exact store_run hR hj hρ hg hv hvn hones (by omega)
              · have hn0 : n0 = 0 := by omega
                have hm0 : m = 0 := by omega
                subst hn0; subst hm0
                have : vn = [] := List.eq_nil_of_length_eq_zero (by simpa using hln)
                subst this
                have : news = [] := List.eq_nil_of_length_eq_zero (by simpa using hlen.symm)
                subst this
                have := store_run (P := P) hR hj hρ hg hv (us := []) (vs := []) rfl rfl (o := of_ + 0 * te.sz) (by simp; omega)
                obtain ⟨w', k1, k2, k3⟩ := this
                cases k1
                exact ⟨w, rfl, k2, k3⟩
            obtain ⟨w', k1, k2, k3⟩ := hst
            have hrun := run_append_A (ty := o.type) hd hd1 hnum hi1 (q := some ⟨g, o', none⟩) (n := n0) (c := c0) (news := vn) (hfn' w rfl) hnm (w' := w') (fun b hb => by cases hb; exact k1) (fun hq => by cases hq)
            refine hN.val h k3 k2 ?_ (hcall _ _ (by rw [hsv, hxv]; exact hrun))
            exact ⟨g, f, b.size, o', hρ, rfl, hnm, hfit⟩
          | false =>
            obtain ⟨_, hb1, hb2, h⟩ := h
            by_cases hnm : n0 + m ≤ c0
            · rcases hfit with ⟨rfl, hfit⟩ | rfl
              · have hsplit : (n0 + m) * te.sz = n0 * te.sz + m * te.sz := Nat.add_mul ..
                have hcap : (n0 + m) * te.sz ≤ c0 * te.sz := Nat.mul_le_mul_right _ hnm
                have hst := run_storeCells_at P g (f + of_ + n0 * te.sz) t' vn 0 b w hg (by omega) (hvn.one hones)
                simp only [Nat.add_zero] at hst
                have hrun := run_append_A (ty := o.type) hd hd1 hnum hi1 (q := some ⟨g, f + of_, none⟩) (n := n0) (c := c0) (news := vn) (hfn' w rfl) hnm (fun b hb => by cases hb; rw [add_zero_addr, hi2]; exact hst) (fun hq => by cases hq)
                obtain ⟨k1, k2⟩ := hR.move (f' := f + of_) (cs' := (cs.drop of_).take (n0 * te.sz) ++ news) (c' := (b.toList.take (f + of_ + n0 * te.sz) ++ vn ++ b.toList.drop (f + of_ + n0 * te.sz + vn.length)).toArray) hj hρ hg (by simp; omega) (by
                  rw [List.append_assoc, List.toList_toArray, List.drop_append_of_le_length (by simp; omega), List.drop_take, show f + of_ + n0 * te.sz - (f + of_) = n0 * te.sz from by omega, ← List.append_assoc]
                  exact (hseg.append hvn).pfx _)
                refine hN.val (h c0 hnm) k2 k1 ?_ (hcall _ _ (by rw [hsv, hxv]; exact hrun))
                exact ⟨g, f + of_, b.size, f + of_, lastP _, rfl, hnm, .inl ⟨by omega, by omega⟩⟩
              · have hn0 : n0 = 0 := by omega
                have hm0 : m = 0 := by omega
                subst hn0; subst hm0
                have : vn = [] := List.eq_nil_of_length_eq_zero (by simpa using hln)
                subst this
                have : news = [] := List.eq_nil_of_length_eq_zero (by simpa using hlen.symm)
                subst this
                have hrun := run_append_A (ty := o.type) hd hd1 hnum hi1 (q := some ⟨g, o', none⟩) (n := 0) (c := 0) (news := []) (hfn' w rfl) (Nat.le_refl _) (w' := w) (fun b hb => by cases hb; simp [storeCells]) (fun hq => by cases hq)
                obtain ⟨k1, k2⟩ := hR.move (f' := f) (cs' := (cs.drop of_).take (0 * te.sz) ++ []) (c' := b) hj hρ hg rfl (by simp [VRP])
                rw [setRow_self w g b t' (0, 0) hg] at k1 k2
                refine hN.val (h 0 (Nat.le_refl _)) k2 k1 ?_ (hcall _ _ (by rw [hsv, hxv]; exact hrun))
                exact ⟨g, f, b.size, o', lastP _, rfl, Nat.le_refl _, .inr rfl⟩
            · obtain ⟨C, hC, hrun⟩ := big (vo := (b.toList.drop (f + of_)).take (n0 * te.sz)) hsv hxv (fun w' hw => by rw [hi2, ← hsv]; exact hfo2 w' hw) hfn' (by omega) hb1 hb2
              have hll := hseg.length
              obtain ⟨k1, k2⟩ := (hRd.kill j).alloc (cs := (cs.drop of_).take (n0 * te.sz) ++ news) (c := (((b.toList.drop (f + of_)).take (n0 * te.sz)).toArray ++ vn.toArray ++ Builtin.zeroCells zv.cells (C - (n0 + m)))) (t := e) 0 (by simpa using (hseg.append hvn).pfx _)
              refine hN.val (h C hC) ((Ext.drew E w).trans k2) k1 ?_ (hcall _ _ hrun)
              refine ⟨w.heap.size, 0, _, 0, lastP _, rfl, hC, .inl ⟨rfl, ?_⟩⟩
              have e1 : ((b.toList.drop (f + of_)).take (n0 * te.sz)).length = n0 * te.sz := by rw [hll]; simp; omega
              simp only [Array.size_append, List.size_toArray, e1, hln, size_zeroCells, hi6]
              have e2 : n0 * te.sz + m * te.sz + (C - (n0 + m)) * te.sz = C * te.sz := by rw [← Nat.add_mul, ← Nat.add_mul]; congr 1; omega
              omega
      | rs cs of_ z' n0 =>
        obtain ⟨_, _, _, h, _⟩ := arow_sound (P := P) hR hs h
        obtain ⟨_, _, _, h, _⟩ := arow_sound (P := P) hR hx h
        exact h.elim
      | _ => exact h.elim
    · rename_i k1
      obtain rfl := desc_int hdd1
      split at h
      · rename_i kk k
        cases hx
        unfold aappz at h
        have hcall : ∀ v w', (Builtin.append_ #[t0, t1] o.type #[sv, .int kk k]).run P w = .ok v w' → (execOp a.eval o).run P w = .ok (.value v) w' := by
          intro v w' hrun
          have hA : (Builtin.append_ tys o.type (args.map a.eval)) = Builtin.append_ #[t0, t1] o.type #[sv, .int kk k] := by
            rw [arr_of_toList hargs]
            simp only [Builtin.append_, htys, htys1]
            rfl
          simp only [execOp, ho, resolve, Sem.run_bind, Sem.run_pure, Result.andThen_ok, invoke, builtin, hA, hrun]
        have hRd := hR.heap (w' := w.drew) rfl
        have lastP : ∀ x : Nat × Nat × Nat, (E.push x).ρ[H.length]? = some x := fun x => by simp only [Env.push]; rw [← hR.len, List.getElem?_append_right (Nat.le_refl _)]; simp
        have hzc := (hi5 E).cells (zero_kn hT hte)
        have hzr : ∀ m : Nat, VRL E (List.replicate m te.zero.cells).flatten (Builtin.zeroCells zv.cells m).toList := fun m => by rw [zeroCells_eq']; exact flatten_vr hzc m
        have big : ∀ {n cap : Nat} {q : Option Addr} {vo : List Value}, sv = .slice q n cap → (∀ w' : World, w'.heap = w.heap → (Builtin.firstCells i.size n (.slice q n cap)).run P w' = .ok vo.toArray w') →
            0 ≤ k → cap < n + k.toNat → (n + k.toNat) * 2 * te.by_ ≤ 281474976710656 → (n + k.toNat) * 2 ≤ 9223372036854775807 → ∃ C, n + k.toNat ≤ C ∧
            (Builtin.append_ #[t0, t1] o.type #[sv, .int kk k]).run P w = .ok (.slice (some ⟨w.heap.size, 0, none⟩) (n + k.toNat) C) (w.drew.alloc (.cells (vo.toArray ++ Builtin.zeroCells zv.cells k.toNat ++ Builtin.zeroCells zv.cells (C - (n + k.toNat))) e)) := by
          intro n cap q vo hsv hfo' h0 hg hb1 hb2
          have hnx := nextslicecap_le (need := n + k.toNat) (old := cap) hg
          have hby : (n + k.toNat) * te.by_ ≤ (n + k.toNat) * 2 * te.by_ := by rw [Nat.mul_assoc]; exact Nat.mul_le_mul_left _ (by omega)
          rw [hsv]
          refine ⟨grownCap w (n + k.toNat) cap e, ?_, run_append_Z hd hd1 hi1 hi4 (by rw [hi6, hi2]) h0 hfo' hg (by omega) (by rw [hi3]; omega) ?_⟩
          · unfold grownCap Question.cut; simp only; omega
          · rw [hi3]
            calc Builtin.nextslicecap (n + k.toNat) cap * te.by_ ≤ (2 * (n + k.toNat)) * te.by_ := Nat.mul_le_mul_right _ hnx
              _ = (n + k.toNat) * 2 * te.by_ := by rw [Nat.mul_comm 2]
              _ ≤ _ := hb1
        cases s with
        | sl aa z' n0 c0 =>
          rcases aa with _ | ⟨j, of_⟩
          · replace h := arow_nil h
            obtain ⟨⟨p1, p2, p3⟩, h1', h2'⟩ := h
            obtain ⟨rfl, rfl, hsv⟩ := hs
            by_cases hk0 : k = 0
            · subst hk0
              have hrun : (Builtin.append_ #[t0, t1] o.type #[sv, .int kk 0]).run P w = .ok (.slice none 0 0) w := by
                rw [hsv]
                have hw : IntKind.i64.wrap 0 = 0 := by rw [IntKind.wrap_i64]; omega
                by_cases hz0 : (0 : Nat) * i.size = 0
                · simp [Builtin.append_, run_underlying hd, run_underlying hd1, Go.sizeOf, typeInfo, hi1, asInt, asIntOf, hw]
                · simp at hz0
              exact hN.val (h1' rfl) (.refl E w) hR ⟨rfl, rfl, rfl⟩ (hcall _ _ hrun)
            · obtain ⟨C, hC, hrun⟩ := big (vo := []) hsv (fun w' _ => by simp [Builtin.firstCells]) p1 (by omega) p2 p3
              simp only [Nat.zero_add] at hC hrun
              obtain ⟨k1, k2⟩ := hRd.alloc (cs := (List.replicate k.toNat te.zero.cells).flatten) (c := (#[] ++ Builtin.zeroCells zv.cells k.toNat ++ Builtin.zeroCells zv.cells (C - k.toNat))) (t := e) 0 (by simpa using (hzr k.toNat).pfx _)
              refine hN.val (h2' (by omega) C hC) ((Ext.drew E w).trans k2) k1 ?_ (hcall _ _ hrun)
              refine ⟨w.heap.size, 0, (#[] ++ Builtin.zeroCells zv.cells k.toNat ++ Builtin.zeroCells zv.cells (C - k.toNat)).size, 0, lastP _, rfl, hC, .inl ⟨rfl, ?_⟩⟩
              simp [size_zeroCells, hi6]
              have : k.toNat * te.sz + (C - k.toNat) * te.sz = C * te.sz := by rw [← Nat.add_mul]; congr 1; omega
              omega
          · obtain ⟨rfl, cs, g, f, b, t', o', hj, hρ, hg, hv, hl, hsv, hnc, hfit, h, hseg, hfo2⟩ := arow_own (P := P) hR hs h
            obtain ⟨⟨p1, p2, p3⟩, h⟩ := h
            replace h := acond_true h
            obtain ⟨hones, hK⟩ := h
            have hbl := hv.length
            simp only [List.length_drop, Array.length_toList] at hbl
            have hzl : (Builtin.zeroCells zv.cells k.toNat).toList.length = k.toNat * te.sz := by rw [Array.length_toList, size_zeroCells, hi6]
            have hzo : ∀ v ∈ (Builtin.zeroCells zv.cells k.toNat).toList, v.oneCell' = true := by
              intro v hv
              rw [zeroCells_eq'] at hv
              obtain ⟨l, hl1, hl2⟩ := List.mem_flatten.mp hv
              rw [List.eq_of_mem_replicate hl1] at hl2
              exact hzc.one hones v hl2
            by_cases hnm : n0 + k.toNat ≤ c0
            · have hw : IntKind.i64.wrap k = k := by rw [IntKind.wrap_i64]; omega
              have hneg : ¬ k < 0 := by omega
              have hkb : ¬ (281474976710656 < k * (i.bytes : Int)) := by
                have h2 : k.toNat * i.bytes ≤ (n0 + k.toNat) * 2 * te.by_ := by rw [hi3]; exact Nat.mul_le_mul_right _ (by omega)
                have h3 : ((k.toNat * i.bytes : Nat) : Int) = k * (i.bytes : Int) := by rw [Int.natCast_mul, Int.toNat_of_nonneg p1]
                omega
              have hrunA : ∀ {q : Option Addr} {b : Addr} {w' : World}, q = some b → (storeCells (b.add (n0 * i.size)) (Builtin.zeroCells zv.cells k.toNat).toList).run P w = .ok () w' →
                  (Builtin.append_ #[t0, t1] o.type #[.slice q n0 c0, .int kk k]).run P w = .ok (.slice q (n0 + k.toNat) c0) w' := by
                intro q b w' hq hst
                subst hq
                by_cases hz0 : k.toNat * i.size = 0
                · have hzz : (Builtin.zeroCells zv.cells k.toNat).toList = [] := List.eq_nil_of_length_eq_zero (by rw [hzl, ← hi2]; exact hz0)
                  rw [hzz] at hst
                  cases hst
                  simp [Builtin.append_, run_underlying hd, run_underlying hd1, Go.sizeOf, typeInfo, hi1, asInt, asIntOf, hw, hneg, hkb, hnm, hz0, storeCells]
                · simp [Builtin.append_, run_underlying hd, run_underlying hd1, Go.sizeOf, typeInfo, hi1, asInt, asIntOf, hw, hneg, hkb, hnm, hz0, Go.zeroValue, hi4, hst]
              rcases hfit with ⟨rfl, hfit⟩ | rfl
              · have hsplit : (n0 + k.toNat) * te.sz = n0 * te.sz + k.toNat * te.sz := Nat.add_mul ..
                have hcap : (n0 + k.toNat) * te.sz ≤ c0 * te.sz := Nat.mul_le_mul_right _ hnm
                have hst := run_storeCells_at P g (f + of_ + n0 * te.sz) t' (Builtin.zeroCells zv.cells k.toNat).toList 0 b w hg (by omega) hzo
                simp only [Nat.add_zero] at hst
                have hrun := hrunA (q := some ⟨g, f + of_, none⟩) rfl (by rw [add_zero_addr, hi2]; exact hst)
                obtain ⟨k1, k2⟩ := hR.move (f' := f + of_) (cs' := (cs.drop of_).take (n0 * te.sz) ++ (List.replicate k.toNat te.zero.cells).flatten) (c' := (b.toList.take (f + of_ + n0 * te.sz) ++ (Builtin.zeroCells zv.cells k.toNat).toList ++ b.toList.drop (f + of_ + n0 * te.sz + (Builtin.zeroCells zv.cells k.toNat).toList.length)).toArray) hj hρ hg (by simp only [List.size_toArray, List.length_append, List.length_take, List.length_drop, Array.length_toList] at hzl ⊢; omega) (by
                  rw [List.append_assoc, List.toList_toArray, List.drop_append_of_le_length (by simp; omega), List.drop_take, show f + of_ + n0 * te.sz - (f + of_) = n0 * te.sz from by omega, ← List.append_assoc]
                  exact (hseg.append (hzr _)).pfx _)
                refine hN.val (hK c0 hnm) k2 k1 ?_ (hcall _ _ (by rw [hsv]; exact hrun))
                exact ⟨g, f + of_, b.size, f + of_, lastP _, rfl, hnm, .inl ⟨by omega, by omega⟩⟩
              · have hn0 : n0 = 0 := by omega
                have hk0 : k = 0 := by omega
                subst hn0; subst hk0
                have hzz : (Builtin.zeroCells zv.cells (0 : Int).toNat).toList = [] := List.eq_nil_of_length_eq_zero (by rw [hzl]; simp)
                have hrun := hrunA (q := some ⟨g, o', none⟩) (w' := w) rfl (by rw [hzz]; simp [storeCells])
                obtain ⟨k1, k2⟩ := hR.move (f' := f) (cs' := (cs.drop of_).take (0 * te.sz) ++ (List.replicate (0 : Int).toNat te.zero.cells).flatten) (c' := b) hj hρ hg rfl (by simp [VRP])
                rw [setRow_self w g b t' (0, 0) hg] at k1 k2
                refine hN.val (hK 0 (Nat.le_refl _)) k2 k1 ?_ (hcall _ _ (by rw [hsv]; exact hrun))
                exact ⟨g, f, b.size, o', lastP _, rfl, Nat.le_refl _, .inr rfl⟩
            · obtain ⟨C, hC, hrun⟩ := big (vo := (b.toList.drop (f + of_)).take (n0 * te.sz)) hsv (fun w' hw => by rw [hi2, ← hsv]; exact hfo2 w' hw) p1 (by omega) p2 p3
              have hll := hseg.length
              obtain ⟨k1, k2⟩ := (hRd.kill j).alloc (cs := (cs.drop of_).take (n0 * te.sz) ++ (List.replicate k.toNat te.zero.cells).flatten) (c := (((b.toList.drop (f + of_)).take (n0 * te.sz)).toArray ++ Builtin.zeroCells zv.cells k.toNat ++ Builtin.zeroCells zv.cells (C - (n0 + k.toNat)))) (t := e) 0 (by simpa using (hseg.append (hzr k.toNat)).pfx _)
              refine hN.val (hK C hC) ((Ext.drew E w).trans k2) k1 ?_ (hcall _ _ hrun)
              refine ⟨w.heap.size, 0, _, 0, lastP _, rfl, hC, .inl ⟨rfl, ?_⟩⟩
              have e1 : ((b.toList.drop (f + of_)).take (n0 * te.sz)).length = n0 * te.sz := by rw [hll]; simp; omega
              simp only [Array.size_append, List.size_toArray, e1, size_zeroCells, hi6]
              have e2 : n0 * te.sz + k.toNat * te.sz + (C - (n0 + k.toNat)) * te.sz = C * te.sz := by rw [← Nat.add_mul, ← Nat.add_mul]; congr 1; omega
              omega
        | rs cs of_ z' n0 =>
          obtain ⟨_, _, _, h, _⟩ := arow_sound (P := P) hR hs h
          exact h.2.elim
        | _ => exact h.elim
      · exact h.elim
    · exact h.elim
  · exact h.elim
end
end Go.AK
