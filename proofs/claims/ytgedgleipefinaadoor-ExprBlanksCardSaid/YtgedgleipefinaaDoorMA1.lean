/- Texts AK10, AK11, AK12, AK13, AK14, AK15, AK16: an evaluator of the model's code, proved sound, and what the program's functions do, for all inputs. -/
import Derived.Test.YtgedgleipefinaaDoorMA0
import Derived.MapKept
import Derived.WideMake
import Derived.Laws.BytesString
import Derived.Scope
set_option linter.unusedVariables false
set_option linter.unusedSimpArgs false
set_option linter.unusedSectionVars false
namespace Go.AK
open Go Go.RowKit
set_option linter.unusedSectionVars false
variable [Globs]
set_option linter.unusedVariables false
section
variable {P : Program} {T : TT}
/-- What follows an operation. -/
structure Nx (E : Env) (w : World) (a : Act) (dst : Option Tmp) (next : Act → World → Prop) (Q : Exit → Act → World → Prop) (K : ARes → Heap → Prop) : Prop where
  ret : ∀ x H' E' w' v, K (.ret x) H' → Ext E w E' w' → Rel E' H' w' → VR E' x v → next (a.put dst v) w'
  pan : ∀ x H' E' w' v, K (.pan x) H' → Ext E w E' w' → Rel E' H' w' → VR E' x v → Q (.panic [{ v, recovered := false }]) a w'
theorem Rel.imOK {E : Env} {H : Heap} {w : World} (h : Rel E H w) : ImOK E w := h.im
variable {nt : Nat} {E : Env} {H : Heap} {w : World} {r : Regs} {a : Act} {o : Oper} {next : Act → World → Prop} {Q : Exit → Act → World → Prop} {K : ARes → Heap → Prop}
theorem Nx.val (hN : Nx E w a o.dst next Q K) {x : AV} {H' : Heap} {E' : Env} {w' : World} {v : Value} (hk : K (.ret x) H') (he : Ext E w E' w') (hR : Rel E' H' w') (hv : VR E' x v)
    (hr : (execOp a.eval o).run P w = .ok (.value v) w') : o.wp P a w next Q := by
  unfold Oper.wp; rw [hr]; exact hN.ret x H' E' w' v hk he hR hv
theorem Nx.skip (hN : Nx E w a o.dst next Q K) {H' : Heap} {E' : Env} {w' : World} (hk : K (.ret (.tup [])) H') (he : Ext E w E' w') (hR : Rel E' H' w')
    (hr : (execOp a.eval o).run P w = .ok .skip w') : o.wp P a w next Q := by
  unfold Oper.wp; rw [hr]; exact hN.ret _ H' E' w' undef hk he hR ⟨#[], rfl, rfl⟩
theorem Nx.sil (hN : Nx E w a o.dst next Q K) (hR : Rel E H w) (h : SilN P E (execOp a.eval o) fun v => K (.ret v) H) : o.wp P a w next Q := by
  obtain ⟨y, v, h1, h2, h3⟩ := h
  exact hN.val h2 (.refl E w) hR h1 (h3 w hR.im)
theorem kn_of_one {x : AV} (h : ones x.cells = true) : x ≠ .un := fun e => by subst e; simp [AV.cells, ones, AV.one] at h
/-- A new row of cells. -/
theorem Nx.new (hN : Nx E w a o.dst next Q K) (hR : Rel E H w) {cs : List AV} {c : Array Value} {t : TypeId} (hv : VRL E cs c.toList) {y : AV} {v : Value}
    (hy : ∀ E' : Env, E'.ρ[H.length]? = some (w.heap.size, 0, c.size) → VR E' y v) (hk : K (.ret y) (H ++ [.c cs])) (hr : (execOp a.eval o).run P w = .ok (.value v) (w.alloc (.cells c t (0, 0)))) : o.wp P a w next Q := by
  obtain ⟨h1, h2⟩ := hR.alloc (t := t) 0 (show VRP E cs (c.toList.drop 0) by simpa using hv.vrp)
  refine hN.val hk h2 h1 (hy _ ?_) hr
  simp only [Env.push]; rw [← hR.len, List.getElem?_append_right (Nat.le_refl _)]; simp
theorem flatten_vr {E : Env} {xs : List AV} {vs : List Value} (h : VRL E xs vs) : ∀ n, VRL E (List.replicate n xs).flatten (List.replicate n vs).flatten
  | 0 => rfl
  | n + 1 => by
    simp only [List.replicate_succ, List.flatten_cons]
    exact h.append (flatten_vr h n)
theorem madeCells_eq (z : Array Value) (n : Nat) : (madeCells z (n * z.size)).toList = (List.replicate n z.toList).flatten := by
  unfold madeCells
  simp only [Array.toList_map, Array.toList_range]
  induction n with
  | zero => simp
  | succ n ih =>
    rw [Nat.succ_mul, List.range_add, List.map_append, ih, List.replicate_succ', List.flatten_append]
    simp only [List.flatten_singleton, List.map_map]
    congr 1
    apply List.ext_getElem
    · simp
    · intro i h1 h2
      simp only [List.length_map, List.length_range] at h1
      have : (n * z.size + i) % z.size = i := by rw [Nat.mul_comm, Nat.mul_add_mod]; exact Nat.mod_eq_of_lt h1
      simp [this, h1]
theorem zeroCells_eq' (z : Array Value) (n : Nat) : (Builtin.zeroCells z n).toList = (List.replicate n z.toList).flatten := by
  have := madeCells_eq z n
  unfold madeCells at this
  unfold Builtin.zeroCells
  exact this
theorem aop_store (hT : TOK P T) (hr : RR nt E r a) (hR : Rel E H w) (hN : Nx E w a o.dst next Q K) {t : TypeId} {x y : Operand} (ho : o.op = .store t x y) (ip : Bool) (h : aop P T ip r H (.store t x y) K) : o.wp P a w next Q := by
  simp only [aop] at h
  replace h := evalK_sound hr h
  obtain ⟨v, h1, h⟩ := h
  replace h := evalK_sound hr h
  obtain ⟨u, h2, h⟩ := h
  replace h := tiK_some h
  obtain ⟨ti, ht, h⟩ := h
  split at h
  · rename_i j of_
    replace h := acond_true h
    obtain ⟨hb, h⟩ := h
    simp only [Bool.and_eq_true] at hb
    replace h := ablk_some h
    obtain ⟨cs, hj, hfit, h⟩ := h
    have hl : u.cells.length = ti.sz := Nat.eq_of_beq_eq_true hb.2
    obtain ⟨g, f, q, hρ, hv⟩ := h1
    obtain ⟨g', f', b, t', e1, e2, e3⟩ := hR.blk j cs hj
    rw [hρ] at e1
    simp only [Option.some.injEq, Prod.mk.injEq] at e1
    obtain ⟨rfl, rfl, rfl⟩ := e1
    have hu := h2.cells (kn_of_one hb.1)
    obtain ⟨w', h3, h4, h5⟩ := store_run (P := P) hR hj hρ e2 e3 hu hb.1 (o := of_) (by omega)
    refine hN.skip h h5 h4 ?_
    have hsz : (a.eval y).cells.size = ti.sz := by rw [← Array.length_toList, hu.length, hl]
    simp only [execOp, ho, Instr.storeAt, hv, Instr.sureAddr, storeVar, Sem.run_bind, Sem.run_pure, Result.andThen_ok, hT.sizeOf ht, hsz, ne_eq, not_true_eq_false, if_false, h3]
  · exact h.elim
theorem arow_nil {H : Heap} {z z' n c : Nat} {K : List AV → Nat → Prop} (h : arow H z (.sl none z' n c) K) : K [] 0 := h
theorem arow_own {j of_ z z' n c : Nat} (hR : Rel E H w) {a : Value} (hv : VR E (.sl (some (j, of_)) z' n c) a) {K : List AV → Nat → Prop} (h : arow H z (.sl (some (j, of_)) z' n c) K) :
    z' = z ∧ ∃ cs g f b t o', H[j]? = some (.c cs) ∧ E.ρ[j]? = some (g, f, b.size) ∧ w.heap[g]? = some (.cells b t (0, 0)) ∧ VRP E cs (b.toList.drop f) ∧ of_ + n * z ≤ cs.length ∧
      a = .slice (some ⟨g, o', none⟩) n c ∧ n ≤ c ∧ (o' = f + of_ ∧ f + of_ + c * z ≤ b.size ∨ c = 0) ∧ K ((cs.drop of_).take (n * z)) n ∧ VRL E ((cs.drop of_).take (n * z)) ((b.toList.drop (f + of_)).take (n * z)) ∧
      ∀ w' : World, w'.heap = w.heap → (Builtin.firstCells z n a).run P w' = .ok ((b.toList.drop (f + of_)).take (n * z)).toArray w' := by
  replace h := acond_true h
  obtain ⟨hz, h⟩ := h
  obtain rfl := Nat.eq_of_beq_eq_true hz
  obtain ⟨cs, hj, hl, h⟩ := ablk_some h
  obtain ⟨g, f, q, o', hρ, rfl, hnc, hfit⟩ := hv
  obtain ⟨g', f', b, t, e1, e2, e3⟩ := hR.blk j cs hj
  rw [hρ] at e1
  simp only [Option.some.injEq, Prod.mk.injEq] at e1
  obtain ⟨rfl, rfl, rfl⟩ := e1
  have hbl := e3.length
  simp only [List.length_drop, Array.length_toList] at hbl
  have hseg := (e3.drop of_).take (n * z') (by simp; omega)
  rw [List.drop_drop] at hseg
  refine ⟨rfl, cs, g, f, b, t, o', hj, hρ, e2, e3, hl, rfl, hnc, hfit, h, hseg, fun w' hw => ?_⟩
  rcases hfit with ⟨rfl, hfit⟩ | rfl
  · have hnz : n * z' ≤ c * z' := Nat.mul_le_mul_right _ hnc
    refine run_firstCells_some w' z' n ⟨g, f + of_, none⟩ n c _ (by simp; omega) fun k u hk => ?_
    rw [add_zero_addr, cell_of (hw ▸ e2)]
    rw [List.getElem?_take] at hk
    split at hk
    · rw [List.getElem?_drop] at hk; rw [← Array.getElem?_toList]; exact hk
    · cases hk
  · have hn0 : n = 0 := by omega
    subst hn0
    simp [Builtin.firstCells, loadCells, loadCellsFrom]
theorem aop_append (hT : TOK P T) (hr : RR nt E r a) (hR : Rel E H w) (hN : Nx E w a o.dst next Q K) {c : Call} (ho : o.op = .call c) (hc : c.callee = .builtin .append) (ip : Bool) (h : acall P T ip r H c K) : o.wp P a w next Q := by
  obtain ⟨callee, args, tys⟩ := c
  simp only at hc
  subst hc
  simp only [acall] at h
  replace h := evalsK_sound hr h
  obtain ⟨vs, h1, h⟩ := h
  replace h1 : VRL E vs (args.map a.eval).toList := by simpa using h1
  replace h := atT_some h
  obtain ⟨t0, htys, h⟩ := h
  replace h := tiK_some h
  obtain ⟨ti, ht, h⟩ := h
  obtain ⟨d, hd, hdd⟩ := hT.desc ht
  generalize ti.d = D at h hdd
  split at h
  · rename_i e s x
    obtain rfl := desc_sl hdd
    obtain ⟨sv, xv, hargs, hs, hx⟩ := vrl_two h1
    replace h := atT_some h
    obtain ⟨t1, htys1, h⟩ := h
    replace h := tiK_some h
    obtain ⟨tx, htx, h⟩ := h
    replace h := tiK_some h
    obtain ⟨te, hte, h⟩ := h
    obtain ⟨d1, hd1, hdd1⟩ := hT.desc htx
    obtain ⟨i, zv, hi1, hi2, hi3, hi4, hi5, hi6⟩ := hT.info hte
    generalize tx.d = D1 at h hdd1
    split at h
    · rename_i e1
      obtain rfl := desc_sl hdd1
      unfold aappend at h
      have hcall : ∀ v w', (Builtin.append_ #[t0, t1] o.type #[sv, xv]).run P w = .ok v w' → (execOp a.eval o).run P w = .ok (.value v) w' := by
        intro v w' hrun
        have hA : (Builtin.append_ tys o.type (args.map a.eval)) = Builtin.append_ #[t0, t1] o.type #[sv, xv] := by
          rw [arr_of_toList hargs]
          simp only [Builtin.append_, htys, htys1]
          rfl
        simp only [execOp, ho, resolve, Sem.run_bind, Sem.run_pure, Result.andThen_ok, invoke, builtin, hA, hrun]
      have hnum : ∀ k, TypeDesc.slice e1 ≠ .int k := nofun
      have xs : ∀ {K' : List AV → Nat → Prop}, arow H te.sz x K' → ∃ news m vn q' cap', K' news m ∧ VRL E news vn ∧ vn.length = m * te.sz ∧ xv = .slice q' m cap' ∧
          ∀ w' : World, w'.heap = w.heap → (Builtin.firstCells i.size m (.slice q' m cap')).run P w' = .ok vn.toArray w' := by
        intro K' h
        obtain ⟨news, m, vn, h, hvn, hln, ⟨q', cap', hxv⟩, hfn⟩ := arow_sound (P := P) hR hx h
        refine ⟨news, m, vn, q', cap', h, hvn, hln, hxv, fun w' hw => ?_⟩
        have := hfn w' hw m (Nat.le_refl _)
        rw [List.take_of_length_le (by omega)] at this
        rw [hi2, ← hxv]; exact this
      have big : ∀ {n cap m : Nat} {q q' : Option Addr} {cap' : Nat} {vo vn : List Value}, sv = .slice q n cap → xv = .slice q' m cap' →
          (∀ w' : World, w'.heap = w.heap → (Builtin.firstCells i.size n (.slice q n cap)).run P w' = .ok vo.toArray w') →
          (∀ w' : World, w'.heap = w.heap → (Builtin.firstCells i.size m (.slice q' m cap')).run P w' = .ok vn.toArray w') → cap < n + m → (n + m) * 2 * te.by_ ≤ 281474976710656 → (n + m) * 2 ≤ 9223372036854775807 → ∃ C, n + m ≤ C ∧
          (Builtin.append_ #[t0, t1] o.type #[sv, xv]).run P w = .ok (.slice (some ⟨w.heap.size, 0, none⟩) (n + m) C) (w.drew.alloc (.cells (vo.toArray ++ vn.toArray ++ Builtin.zeroCells zv.cells (C - (n + m))) e)) := by
        intro n cap m q q' cap' vo vn hsv hxv hfo' hfn' hg hb1 hb2
        have hnx := nextslicecap_le (need := n + m) (old := cap) hg
        rw [hsv, hxv]
        refine ⟨grownCap w (n + m) cap e, ?_, run_append_B hd hd1 hnum hi1 hi4 hfo' hfn' hg (by omega) ?_⟩
        · unfold grownCap Question.cut; simp only; omega
        · rw [hi3]
          calc Builtin.nextslicecap (n + m) cap * te.by_ ≤ (2 * (n + m)) * te.by_ := Nat.mul_le_mul_right _ hnx
            _ = (n + m) * 2 * te.by_ := by rw [Nat.mul_comm 2]
            _ ≤ _ := hb1
      have hRd := hR.heap (w' := w.drew) rfl
      have lastP : ∀ x : Nat × Nat × Nat, (E.push x).ρ[H.length]? = some x := fun x => by simp only [Env.push]; rw [← hR.len, List.getElem?_append_right (Nat.le_refl _)]; simp
      cases s with
      | sl aa z' n0 c0 =>
        rcases aa with _ | ⟨j, of_⟩
        · replace h := arow_nil h
          obtain ⟨news, m, vn, q', cap', h, hvn, hln, hxv, hfn'⟩ := xs h
          obtain ⟨rfl, rfl, hsv⟩ := hs
          cases hm : Nat.beq m 0 with
          | true =>
            rw [hm] at h
            have h : K (.ret (.sl none te.sz 0 0)) H := h
            have hm0 : m = 0 := Nat.eq_of_beq_eq_true hm
            subst hm0
            have hrun := run_append_A (ty := o.type) hd hd1 hnum hi1 (q := none) (n := 0) (c := 0) (news := vn) (hfn' w rfl) (Nat.le_refl _) (w' := w) (by simp) (by simp)
            exact hN.val h (.refl E w) hR ⟨rfl, rfl, rfl⟩ (hcall _ _ (by rw [hsv, hxv]; exact hrun))
          | false =>
            rw [hm] at h
            obtain ⟨hones, hb1, hb2, h⟩ := h
            have hm0 : m ≠ 0 := fun e => by subst e; simp at hm
            obtain ⟨C, hC, hrun⟩ := big (vo := []) hsv hxv (fun w' _ => by simp [Builtin.firstCells]) hfn' (by omega) (by simpa using hb1) (by simpa using hb2)
            simp only [Nat.zero_add] at hC hrun
            obtain ⟨k1, k2⟩ := hRd.alloc (cs := news) (c := (#[] ++ vn.toArray ++ Builtin.zeroCells zv.cells (C - m))) (t := e) 0 (by simpa using hvn.pfx _)
            refine hN.val (h C hC) ((Ext.drew E w).trans k2) k1 ?_ (hcall _ _ hrun)
            refine ⟨w.heap.size, 0, (#[] ++ vn.toArray ++ Builtin.zeroCells zv.cells (C - m)).size, 0, lastP _, rfl, hC, .inl ⟨rfl, ?_⟩⟩
            simp [size_zeroCells, hln, hi6]
            have : m * te.sz + (C - m) * te.sz = C * te.sz := by rw [← Nat.add_mul]; congr 1; omega
            omega
        · obtain ⟨rfl, cs, g, f, b, t', o', hj, hρ, hg, hv, hl, hsv, hnc, hfit, h, hseg, hfo2⟩ := arow_own (P := P) hR hs h
          replace h : arow H te.sz x _ := h
          obtain ⟨news, m, vn, q', cap', h, hvn, hln, hxv, hfn'⟩ := xs h
          have hbl := hv.length
          simp only [List.length_drop, Array.length_toList] at hbl
          have hones : ones news = true := by
            cases ip
            · exact h.1
            · exact h.1
          have hlen := hvn.length
          cases ip with
          | true =>
            obtain ⟨_, hnm, h⟩ := h
            obtain ⟨cs', hj', hl', h⟩ := ablk_some h
            rw [hj] at hj'
            cases hj'
            have hsplit : (n0 + m) * te.sz = n0 * te.sz + m * te.sz := Nat.add_mul ..
            have hst : ∃ w', (storeCells ((⟨g, o', none⟩ : Addr).add (n0 * i.size)) vn).run P w = .ok () w' ∧ Rel E (H.set j (.c (setCells cs (of_ + n0 * te.sz) news))) w' ∧ Ext E w E w' := by
              rcases hfit with ⟨rfl, hfit⟩ | rfl
              · rw [add_zero_addr, hi2, show f + of_ + n0 * te.sz = f + (of_ + n0 * te.sz) from Nat.add_assoc ..]
                exact store_run hR hj hρ hg hv hvn hones (by omega)
              · have hn0 : n0 = 0 := by omega
                have hm0 : m = 0 := by omega
                subst hn0; subst hm0
                have : vn = [] := List.eq_nil_of_length_eq_zero (by simpa using hln)
                subst this
                have : news = [] := List.eq_nil_of_length_eq_zero (by simpa using hlen.symm)
                subst this
                have := store_run (P := P) hR hj hρ hg hv (us := []) (vs := []) rfl rfl (o := of_ + 0 * te.sz) (by simp; omega)
                obtain ⟨w', k1, k2, k3⟩ := this
                cases k1
                exact ⟨w, rfl, k2, k3⟩
            obtain ⟨w', k1, k2, k3⟩ := hst
            have hrun := run_append_A (ty := o.type) hd hd1 hnum hi1 (q := some ⟨g, o', none⟩) (n := n0) (c := c0) (news := vn) (hfn' w rfl) hnm (w' := w') (fun b hb => by cases hb; exact k1) (fun hq => by cases hq)
            refine hN.val h k3 k2 ?_ (hcall _ _ (by rw [hsv, hxv]; exact hrun))
            exact ⟨g, f, b.size, o', hρ, rfl, hnm, hfit⟩
          | false =>
            obtain ⟨_, hb1, hb2, h⟩ := h
            by_cases hnm : n0 + m ≤ c0
            · rcases hfit with ⟨rfl, hfit⟩ | rfl
              · have hsplit : (n0 + m) * te.sz = n0 * te.sz + m * te.sz := Nat.add_mul ..
                have hcap : (n0 + m) * te.sz ≤ c0 * te.sz := Nat.mul_le_mul_right _ hnm
                have hst := run_storeCells_at P g (f + of_ + n0 * te.sz) t' vn 0 b w hg (by omega) (hvn.one hones)
                simp only [Nat.add_zero] at hst
                have hrun := run_append_A (ty := o.type) hd hd1 hnum hi1 (q := some ⟨g, f + of_, none⟩) (n := n0) (c := c0) (news := vn) (hfn' w rfl) hnm (fun b hb => by cases hb; rw [add_zero_addr, hi2]; exact hst) (fun hq => by cases hq)
                obtain ⟨k1, k2⟩ := hR.move (f' := f + of_) (cs' := (cs.drop of_).take (n0 * te.sz) ++ news) (c' := (b.toList.take (f + of_ + n0 * te.sz) ++ vn ++ b.toList.drop (f + of_ + n0 * te.sz + vn.length)).toArray) hj hρ hg (by simp; omega) (by
                  rw [List.append_assoc, List.toList_toArray, List.drop_append_of_le_length (by simp; omega), List.drop_take, show f + of_ + n0 * te.sz - (f + of_) = n0 * te.sz from by omega, ← List.append_assoc]
                  exact (hseg.append hvn).pfx _)
                refine hN.val (h c0 hnm) k2 k1 ?_ (hcall _ _ (by rw [hsv, hxv]; exact hrun))
                exact ⟨g, f + of_, b.size, f + of_, lastP _, rfl, hnm, .inl ⟨by omega, by omega⟩⟩
              · have hn0 : n0 = 0 := by omega
                have hm0 : m = 0 := by omega
                subst hn0; subst hm0
                have : vn = [] := List.eq_nil_of_length_eq_zero (by simpa using hln)
                subst this
                have : news = [] := List.eq_nil_of_length_eq_zero (by simpa using hlen.symm)
                subst this
                have hrun := run_append_A (ty := o.type) hd hd1 hnum hi1 (q := some ⟨g, o', none⟩) (n := 0) (c := 0) (news := []) (hfn' w rfl) (Nat.le_refl _) (w' := w) (fun b hb => by cases hb; simp [storeCells]) (fun hq => by cases hq)
                obtain ⟨k1, k2⟩ := hR.move (f' := f) (cs' := (cs.drop of_).take (0 * te.sz) ++ []) (c' := b) hj hρ hg rfl (by simp [VRP])
                rw [setRow_self w g b t' (0, 0) hg] at k1 k2
                refine hN.val (h 0 (Nat.le_refl _)) k2 k1 ?_ (hcall _ _ (by rw [hsv, hxv]; exact hrun))
                exact ⟨g, f, b.size, o', lastP _, rfl, Nat.le_refl _, .inr rfl⟩
            · obtain ⟨C, hC, hrun⟩ := big (vo := (b.toList.drop (f + of_)).take (n0 * te.sz)) hsv hxv (fun w' hw => by rw [hi2, ← hsv]; exact hfo2 w' hw) hfn' (by omega) hb1 hb2
              have hll := hseg.length
              obtain ⟨k1, k2⟩ := (hRd.kill j).alloc (cs := (cs.drop of_).take (n0 * te.sz) ++ news) (c := (((b.toList.drop (f + of_)).take (n0 * te.sz)).toArray ++ vn.toArray ++ Builtin.zeroCells zv.cells (C - (n0 + m)))) (t := e) 0 (by simpa using (hseg.append hvn).pfx _)
              refine hN.val (h C hC) ((Ext.drew E w).trans k2) k1 ?_ (hcall _ _ hrun)
              refine ⟨w.heap.size, 0, _, 0, lastP _, rfl, hC, .inl ⟨rfl, ?_⟩⟩
              have e1 : ((b.toList.drop (f + of_)).take (n0 * te.sz)).length = n0 * te.sz := by rw [hll]; simp; omega
              simp only [Array.size_append, List.size_toArray, e1, hln, size_zeroCells, hi6]
              have e2 : n0 * te.sz + m * te.sz + (C - (n0 + m)) * te.sz = C * te.sz := by rw [← Nat.add_mul, ← Nat.add_mul]; congr 1; omega
              omega
      | rs cs of_ z' n0 =>
        obtain ⟨_, _, _, h, _⟩ := arow_sound (P := P) hR hs h
        obtain ⟨_, _, _, h, _⟩ := arow_sound (P := P) hR hx h
        exact h.elim
      | _ => exact h.elim
    · rename_i k1
      obtain rfl := desc_int hdd1
      split at h
      · rename_i kk k
        cases hx
        unfold aappz at h
        have hcall : ∀ v w', (Builtin.append_ #[t0, t1] o.type #[sv, .int kk k]).run P w = .ok v w' → (execOp a.eval o).run P w = .ok (.value v) w' := by
          intro v w' hrun
          have hA : (Builtin.append_ tys o.type (args.map a.eval)) = Builtin.append_ #[t0, t1] o.type #[sv, .int kk k] := by
            rw [arr_of_toList hargs]
            simp only [Builtin.append_, htys, htys1]
            rfl
          simp only [execOp, ho, resolve, Sem.run_bind, Sem.run_pure, Result.andThen_ok, invoke, builtin, hA, hrun]
        have hRd := hR.heap (w' := w.drew) rfl
        have lastP : ∀ x : Nat × Nat × Nat, (E.push x).ρ[H.length]? = some x := fun x => by simp only [Env.push]; rw [← hR.len, List.getElem?_append_right (Nat.le_refl _)]; simp
        have hzc := (hi5 E).cells (zero_kn hT hte)
        have hzr : ∀ m : Nat, VRL E (List.replicate m te.zero.cells).flatten (Builtin.zeroCells zv.cells m).toList := fun m => by rw [zeroCells_eq']; exact flatten_vr hzc m
        have big : ∀ {n cap : Nat} {q : Option Addr} {vo : List Value}, sv = .slice q n cap → (∀ w' : World, w'.heap = w.heap → (Builtin.firstCells i.size n (.slice q n cap)).run P w' = .ok vo.toArray w') →
            0 ≤ k → cap < n + k.toNat → (n + k.toNat) * 2 * te.by_ ≤ 281474976710656 → (n + k.toNat) * 2 ≤ 9223372036854775807 → ∃ C, n + k.toNat ≤ C ∧
            (Builtin.append_ #[t0, t1] o.type #[sv, .int kk k]).run P w = .ok (.slice (some ⟨w.heap.size, 0, none⟩) (n + k.toNat) C) (w.drew.alloc (.cells (vo.toArray ++ Builtin.zeroCells zv.cells k.toNat ++ Builtin.zeroCells zv.cells (C - (n + k.toNat))) e)) := by
          intro n cap q vo hsv hfo' h0 hg hb1 hb2
          have hnx := nextslicecap_le (need := n + k.toNat) (old := cap) hg
          have hby : (n + k.toNat) * te.by_ ≤ (n + k.toNat) * 2 * te.by_ := by rw [Nat.mul_assoc]; exact Nat.mul_le_mul_left _ (by omega)
          rw [hsv]
          refine ⟨grownCap w (n + k.toNat) cap e, ?_, run_append_Z hd hd1 hi1 hi4 (by rw [hi6, hi2]) h0 hfo' hg (by omega) (by rw [hi3]; omega) ?_⟩
          · unfold grownCap Question.cut; simp only; omega
          · rw [hi3]
            calc Builtin.nextslicecap (n + k.toNat) cap * te.by_ ≤ (2 * (n + k.toNat)) * te.by_ := Nat.mul_le_mul_right _ hnx
              _ = (n + k.toNat) * 2 * te.by_ := by rw [Nat.mul_comm 2]
              _ ≤ _ := hb1
        cases s with
        | sl aa z' n0 c0 =>
          rcases aa with _ | ⟨j, of_⟩
          · replace h := arow_nil h
            obtain ⟨⟨p1, p2, p3⟩, h1', h2'⟩ := h
            obtain ⟨rfl, rfl, hsv⟩ := hs
            by_cases hk0 : k = 0
            · subst hk0
              have hrun : (Builtin.append_ #[t0, t1] o.type #[sv, .int kk 0]).run P w = .ok (.slice none 0 0) w := by
                rw [hsv]
                have hw : IntKind.i64.wrap 0 = 0 := by rw [IntKind.wrap_i64]; omega
                by_cases hz0 : (0 : Nat) * i.size = 0
                · simp [Builtin.append_, run_underlying hd, run_underlying hd1, Go.sizeOf, typeInfo, hi1, asInt, asIntOf, hw]
                · simp at hz0
              exact hN.val (h1' rfl) (.refl E w) hR ⟨rfl, rfl, rfl⟩ (hcall _ _ hrun)
            · obtain ⟨C, hC, hrun⟩ := big (vo := []) hsv (fun w' _ => by simp [Builtin.firstCells]) p1 (by omega) p2 p3
              simp only [Nat.zero_add] at hC hrun
              obtain ⟨k1, k2⟩ := hRd.alloc (cs := (List.replicate k.toNat te.zero.cells).flatten) (c := (#[] ++ Builtin.zeroCells zv.cells k.toNat ++ Builtin.zeroCells zv.cells (C - k.toNat))) (t := e) 0 (by simpa using (hzr k.toNat).pfx _)
              refine hN.val (h2' (by omega) C hC) ((Ext.drew E w).trans k2) k1 ?_ (hcall _ _ hrun)
              refine ⟨w.heap.size, 0, (#[] ++ Builtin.zeroCells zv.cells k.toNat ++ Builtin.zeroCells zv.cells (C - k.toNat)).size, 0, lastP _, rfl, hC, .inl ⟨rfl, ?_⟩⟩
              simp [size_zeroCells, hi6]
              have : k.toNat * te.sz + (C - k.toNat) * te.sz = C * te.sz := by rw [← Nat.add_mul]; congr 1; omega
              omega
          · obtain ⟨rfl, cs, g, f, b, t', o', hj, hρ, hg, hv, hl, hsv, hnc, hfit, h, hseg, hfo2⟩ := arow_own (P := P) hR hs h
            obtain ⟨⟨p1, p2, p3⟩, h⟩ := h
            replace h := acond_true h
            obtain ⟨hones, hK⟩ := h
            have hbl := hv.length
            simp only [List.length_drop, Array.length_toList] at hbl
            have hzl : (Builtin.zeroCells zv.cells k.toNat).toList.length = k.toNat * te.sz := by rw [Array.length_toList, size_zeroCells, hi6]
            have hzo : ∀ v ∈ (Builtin.zeroCells zv.cells k.toNat).toList, v.oneCell' = true := by
              intro v hv
              rw [zeroCells_eq'] at hv
              obtain ⟨l, hl1, hl2⟩ := List.mem_flatten.mp hv
              rw [List.eq_of_mem_replicate hl1] at hl2
              exact hzc.one hones v hl2
            by_cases hnm : n0 + k.toNat ≤ c0
            · replace hK := hK.resolve_left (fun h => by omega)
              have hw : IntKind.i64.wrap k = k := by rw [IntKind.wrap_i64]; omega
              have hneg : ¬ k < 0 := by omega
              have hkb : ¬ (281474976710656 < k * (i.bytes : Int)) := by
                have h2 : k.toNat * i.bytes ≤ (n0 + k.toNat) * 2 * te.by_ := by rw [hi3]; exact Nat.mul_le_mul_right _ (by omega)
                have h3 : ((k.toNat * i.bytes : Nat) : Int) = k * (i.bytes : Int) := by rw [Int.natCast_mul, Int.toNat_of_nonneg p1]
                omega
              have hrunA : ∀ {q : Option Addr} {b : Addr} {w' : World}, q = some b → (storeCells (b.add (n0 * i.size)) (Builtin.zeroCells zv.cells k.toNat).toList).run P w = .ok () w' →
                  (Builtin.append_ #[t0, t1] o.type #[.slice q n0 c0, .int kk k]).run P w = .ok (.slice q (n0 + k.toNat) c0) w' := by
                intro q b w' hq hst
                subst hq
                by_cases hz0 : k.toNat * i.size = 0
                · have hzz : (Builtin.zeroCells zv.cells k.toNat).toList = [] := List.eq_nil_of_length_eq_zero (by rw [hzl, ← hi2]; exact hz0)
                  rw [hzz] at hst
                  cases hst
                  simp [Builtin.append_, run_underlying hd, run_underlying hd1, Go.sizeOf, typeInfo, hi1, asInt, asIntOf, hw, hneg, hkb, hnm, hz0, storeCells]
                · simp [Builtin.append_, run_underlying hd, run_underlying hd1, Go.sizeOf, typeInfo, hi1, asInt, asIntOf, hw, hneg, hkb, hnm, hz0, Go.zeroValue, hi4, hst]
              rcases hfit with ⟨rfl, hfit⟩ | rfl
              · have hsplit : (n0 + k.toNat) * te.sz = n0 * te.sz + k.toNat * te.sz := Nat.add_mul ..
                have hcap : (n0 + k.toNat) * te.sz ≤ c0 * te.sz := Nat.mul_le_mul_right _ hnm
                have hst := run_storeCells_at P g (f + of_ + n0 * te.sz) t' (Builtin.zeroCells zv.cells k.toNat).toList 0 b w hg (by omega) hzo
                simp only [Nat.add_zero] at hst
                have hrun := hrunA (q := some ⟨g, f + of_, none⟩) rfl (by rw [add_zero_addr, hi2]; exact hst)
                obtain ⟨k1, k2⟩ := hR.move (f' := f + of_) (cs' := (cs.drop of_).take (n0 * te.sz) ++ (List.replicate k.toNat te.zero.cells).flatten) (c' := (b.toList.take (f + of_ + n0 * te.sz) ++ (Builtin.zeroCells zv.cells k.toNat).toList ++ b.toList.drop (f + of_ + n0 * te.sz + (Builtin.zeroCells zv.cells k.toNat).toList.length)).toArray) hj hρ hg (by simp only [List.size_toArray, List.length_append, List.length_take, List.length_drop, Array.length_toList] at hzl ⊢; omega) (by
                  rw [List.append_assoc, List.toList_toArray, List.drop_append_of_le_length (by simp; omega), List.drop_take, show f + of_ + n0 * te.sz - (f + of_) = n0 * te.sz from by omega, ← List.append_assoc]
                  exact (hseg.append (hzr _)).pfx _)
                refine hN.val (hK c0 hnm) k2 k1 ?_ (hcall _ _ (by rw [hsv]; exact hrun))
                exact ⟨g, f + of_, b.size, f + of_, lastP _, rfl, hnm, .inl ⟨by omega, by omega⟩⟩
              · have hn0 : n0 = 0 := by omega
                have hk0 : k = 0 := by omega
                subst hn0; subst hk0
                have hzz : (Builtin.zeroCells zv.cells (0 : Int).toNat).toList = [] := List.eq_nil_of_length_eq_zero (by rw [hzl]; simp)
                have hrun := hrunA (q := some ⟨g, o', none⟩) (w' := w) rfl (by rw [hzz]; simp [storeCells])
                obtain ⟨k1, k2⟩ := hR.move (f' := f) (cs' := (cs.drop of_).take (0 * te.sz) ++ (List.replicate (0 : Int).toNat te.zero.cells).flatten) (c' := b) hj hρ hg rfl (by simp [VRP])
                rw [setRow_self w g b t' (0, 0) hg] at k1 k2
                refine hN.val (hK 0 (Nat.le_refl _)) k2 k1 ?_ (hcall _ _ (by rw [hsv]; exact hrun))
                exact ⟨g, f, b.size, o', lastP _, rfl, Nat.le_refl _, .inr rfl⟩
            · obtain ⟨C, hC, hrun⟩ := big (vo := (b.toList.drop (f + of_)).take (n0 * te.sz)) hsv (fun w' hw => by rw [hi2, ← hsv]; exact hfo2 w' hw) p1 (by omega) p2 p3
              have hll := hseg.length
              rcases hK with ⟨_, hK⟩ | hK
              · skip
                obtain ⟨k1, k2⟩ := hRd.alloc (cs := (cs.drop of_).take (n0 * te.sz) ++ (List.replicate k.toNat te.zero.cells).flatten) (c := (((b.toList.drop (f + of_)).take (n0 * te.sz)).toArray ++ Builtin.zeroCells zv.cells k.toNat ++ Builtin.zeroCells zv.cells (C - (n0 + k.toNat)))) (t := e) 0 (by simpa using (hseg.append (hzr k.toNat)).pfx _)
                refine hN.val (hK C hC) ((Ext.drew E w).trans k2) k1 ?_ (hcall _ _ hrun)
                refine ⟨w.heap.size, 0, _, 0, lastP _, rfl, hC, .inl ⟨rfl, ?_⟩⟩
                have e1 : ((b.toList.drop (f + of_)).take (n0 * te.sz)).length = n0 * te.sz := by rw [hll]; simp; omega
                simp only [Array.size_append, List.size_toArray, e1, size_zeroCells, hi6]
                have e2 : n0 * te.sz + k.toNat * te.sz + (C - (n0 + k.toNat)) * te.sz = C * te.sz := by rw [← Nat.add_mul, ← Nat.add_mul]; congr 1; omega
                omega
              · skip
                obtain ⟨k1, k2⟩ := (hRd.kill j).alloc (cs := (cs.drop of_).take (n0 * te.sz) ++ (List.replicate k.toNat te.zero.cells).flatten) (c := (((b.toList.drop (f + of_)).take (n0 * te.sz)).toArray ++ Builtin.zeroCells zv.cells k.toNat ++ Builtin.zeroCells zv.cells (C - (n0 + k.toNat)))) (t := e) 0 (by simpa using (hseg.append (hzr k.toNat)).pfx _)
                refine hN.val (hK C hC) ((Ext.drew E w).trans k2) k1 ?_ (hcall _ _ hrun)
                refine ⟨w.heap.size, 0, _, 0, lastP _, rfl, hC, .inl ⟨rfl, ?_⟩⟩
                have e1 : ((b.toList.drop (f + of_)).take (n0 * te.sz)).length = n0 * te.sz := by rw [hll]; simp; omega
                simp only [Array.size_append, List.size_toArray, e1, size_zeroCells, hi6]
                have e2 : n0 * te.sz + k.toNat * te.sz + (C - (n0 + k.toNat)) * te.sz = C * te.sz := by rw [← Nat.add_mul, ← Nat.add_mul]; congr 1; omega
                omega
        | rs cs of_ z' n0 =>
          obtain ⟨_, _, _, h, _⟩ := arow_sound (P := P) hR hs h
          exact h.2.elim
        | _ => exact h.elim
      · exact h.elim
    · exact h.elim
  · exact h.elim
end
end Go.AK
namespace Go.AK
open Go Go.RowKit
set_option linter.unusedSectionVars false
variable [Globs]
set_option linter.unusedVariables false
/-- A new map. -/
theorem Rel.allocM {E : Env} {H : Heap} {w : World} (h : Rel E H w) {cs : List (AV × AV)} {es0 : Array MapEntry} {k0 : Nat} (f c : Nat) (hv : VRM E cs es0.toList) :
    Rel (E.push (w.heap.size, f, c)) (H ++ [.mp cs]) (w.alloc (.map es0 k0)) ∧ Ext E w (E.push (w.heap.size, f, c)) (w.alloc (.map es0 k0)) := by
  have hle := E.le_push (w.heap.size, f, c)
  have hold : ∀ k, k < w.heap.size → (w.alloc (.map es0 k0)).heap[k]? = w.heap[k]? := fun k hk => Below.heap_alloc _ _ _ hk
  have hnew : (w.alloc (.map es0 k0)).heap[w.heap.size]? = some (.map es0 k0) := by
    show (w.heap.push _)[w.heap.size]? = _
    simp
  have hsz : (w.alloc (.map es0 k0)).heap.size = w.heap.size + 1 := by
    show (w.heap.push _).size = _
    simp
  have hget : ∀ j (b : Blk), (H ++ [Blk.mp cs])[j]? = some b → (H[j]? = some b ∧ j < H.length) ∨ (j = H.length ∧ b = .mp cs) := by
    intro j b hb
    rcases Nat.lt_trichotomy j H.length with h1 | h1 | h1
    · rw [List.getElem?_append_left h1] at hb; exact .inl ⟨hb, h1⟩
    · subst h1; rw [List.getElem?_append_right (Nat.le_refl _)] at hb; simp at hb; exact .inr ⟨rfl, hb.symm⟩
    · rw [List.getElem?_eq_none (by simp; omega)] at hb; cases hb
  have hρ : ∀ j (x : Nat × Nat × Nat), (E.push (w.heap.size, f, c)).ρ[j]? = some x → (E.ρ[j]? = some x ∧ j < H.length) ∨ (j = H.length ∧ x = (w.heap.size, f, c)) := by
    intro j x hx
    simp only [Env.push] at hx
    rcases Nat.lt_trichotomy j E.ρ.length with h1 | h1 | h1
    · rw [List.getElem?_append_left h1] at hx; exact .inl ⟨hx, h.len ▸ h1⟩
    · subst h1; rw [List.getElem?_append_right (Nat.le_refl _)] at hx; simp at hx; exact .inr ⟨h.len, hx.symm⟩
    · rw [List.getElem?_eq_none (by simp; omega)] at hx; cases hx
  have hlast : (E.push (w.heap.size, f, c)).ρ[H.length]? = some (w.heap.size, f, c) := by
    simp only [Env.push]; rw [← h.len, List.getElem?_append_right (Nat.le_refl _)]; simp
  refine ⟨⟨by simp [Env.push, h.len], ?_, ?_, ?_, ?_, ?_, ?_, h.gl⟩, ⟨hle, ?_, fun g o hg => .inl hg, rfl, rfl, rfl, by omega, fun g hg _ => hold g hg⟩⟩
  · intro j cs' hj
    rcases hget j _ hj with ⟨h1, _⟩ | ⟨h1, h2⟩
    · obtain ⟨g, f', c', t', e1, e2, e3⟩ := h.blk j cs' h1
      exact ⟨g, f', c', t', hle.pre _ _ e1, (hold g (h.lt _ _ e1)).trans e2, e3.mono hle⟩
    · cases h2
  · intro j es hj
    rcases hget j _ hj with ⟨h1, _⟩ | ⟨h1, h2⟩
    · obtain ⟨g, f', q, es', k, e1, e2, e3⟩ := h.mp j es h1
      exact ⟨g, f', q, es', k, hle.pre _ _ e1, (hold g (h.lt _ _ e1)).trans e2, e3.mono hle⟩
    · cases h2; subst h1; exact ⟨_, f, c, _, k0, hlast, hnew, hv.mono hle⟩
  · intro j j' x x' ha ha' hx hx' e
    obtain ⟨b, hb, hd⟩ := ha
    obtain ⟨b', hb', hd'⟩ := ha'
    rcases hρ j x hx with ⟨h1, l1⟩ | ⟨h1, rfl⟩ <;> rcases hρ j' x' hx' with ⟨h2, l2⟩ | ⟨h2, rfl⟩
    · refine h.inj j j' x x' ⟨b, ?_, hd⟩ ⟨b', ?_, hd'⟩ h1 h2 e
      · rwa [List.getElem?_append_left l1] at hb
      · rwa [List.getElem?_append_left l2] at hb'
    · have := h.lt _ _ h1; simp only at e; omega
    · have := h.lt _ _ h2; simp only at e; omega
    · omega
  · intro j x hx
    rcases hρ j x hx with ⟨h1, _⟩ | ⟨_, rfl⟩
    · have := h.lt _ _ h1; omega
    · simp only; omega
  · intro g o hg
    have hg' : E.Im g = some o := hg
    have := h.im g o hg'
    have hl : g < w.heap.size := (Array.getElem?_eq_some_iff.mp this).1
    exact (hold g hl).trans this
  · intro j x ha hx
    obtain ⟨b, hb, hd⟩ := ha
    rcases hρ j x hx with ⟨h1, l1⟩ | ⟨_, rfl⟩
    · exact h.imd j x ⟨b, by rwa [List.getElem?_append_left l1] at hb, hd⟩ h1
    · show E.Im w.heap.size = none
      cases hE : E.Im w.heap.size with
      | none => rfl
      | some o => have := h.im _ _ hE; have := (Array.getElem?_eq_some_iff.mp this).1; omega
  · intro j x hj hx
    rcases hρ j x hx with ⟨h1, l1⟩ | ⟨_, rfl⟩
    · have := h.len; omega
    · exact .inl (Nat.le_refl _)
/-- A map's entries are put anew. -/
theorem Rel.setMap {E : Env} {H : Heap} {w : World} (h : Rel E H w) {j g f q0 k0 k1 : Nat} {cs cs' : List (AV × AV)} {c c' : Array MapEntry} (hj : H[j]? = some (.mp cs)) (hρ : E.ρ[j]? = some (g, f, q0))
    (hg : w.heap[g]? = some (.map c k0)) (hv : VRM E cs' c'.toList) :
    Rel E (H.set j (.mp cs')) ({ w with heap := w.heap.setIfInBounds g (.map c' k1) } : World) ∧ Ext E w E ({ w with heap := w.heap.setIfInBounds g (.map c' k1) } : World) := by
  have hjl : j < H.length := (List.getElem?_eq_some_iff.mp hj).1
  have hfar : ∀ k, k ≠ g → ({ w with heap := w.heap.setIfInBounds g (.map c' k1) } : World).heap[k]? = w.heap[k]? := fun k hk => by
    exact (MapKept.heap_set hg).2 k hk
  have hhere : ({ w with heap := w.heap.setIfInBounds g (.map c' k1) } : World).heap[g]? = some (.map c' k1) := by
    exact (MapKept.heap_set hg).1
  have hsz : ({ w with heap := w.heap.setIfInBounds g (.map c' k1) } : World).heap.size = w.heap.size := by simp
  have hal : ∀ k, alive (H.set j (.mp cs')) k → alive H k := by
    rintro k ⟨b, hb, hd⟩
    by_cases e : j = k
    · subst e; exact ⟨_, hj, by simp⟩
    · rw [List.getElem?_set_ne e] at hb; exact ⟨b, hb, hd⟩
  have haj : alive H j := ⟨_, hj, by simp⟩
  refine ⟨⟨by simp [h.len], ?_, ?_, fun a b x x' ha hb => h.inj a b x x' (hal a ha) (hal b hb), fun a x hx => hsz.symm ▸ h.lt a x hx, ?_, fun a x ha => h.imd a x (hal a ha), h.gl⟩, ⟨.refl E, ?_, fun _ _ h => .inl h, rfl, rfl, rfl, by omega, ?_⟩⟩
  · intro k ds hk
    by_cases e : j = k
    · subst e; rw [List.getElem?_set_self hjl] at hk; cases hk
    · rw [List.getElem?_set_ne e] at hk
      obtain ⟨g', f', c1, t', e1, e2, e3⟩ := h.blk k ds hk
      have hne : g' ≠ g := fun eg => e (h.inj j k _ _ haj ⟨_, hk, by simp⟩ hρ e1 eg.symm)
      exact ⟨g', f', c1, t', e1, (hfar _ hne).trans e2, e3⟩
  · intro k es hk
    by_cases e : j = k
    · subst e
      rw [List.getElem?_set_self hjl] at hk
      cases hk
      exact ⟨g, f, q0, c', k1, hρ, hhere, hv⟩
    · rw [List.getElem?_set_ne e] at hk
      obtain ⟨g', f', q, es', kk, e1, e2, e3⟩ := h.mp k es hk
      have hne : g' ≠ g := fun eg => e (h.inj j k _ _ haj ⟨_, hk, by simp⟩ hρ e1 eg.symm)
      exact ⟨g', f', q, es', kk, e1, (hfar _ hne).trans e2, e3⟩
  · intro g' o ho
    have hne : g' ≠ g := fun eg => by
      have := h.imd j _ haj hρ
      simp only at this
      rw [← eg, ho] at this; cases this
    exact (hfar _ hne).trans (h.im g' o ho)
  · intro a x ha hx
    have := (List.getElem?_eq_some_iff.mp hx).1; omega
  · intro g' _ hn
    exact hfar g' fun e => hn j _ hρ e.symm
theorem amap_some {H : Heap} {j : Nat} {K : List (AV × AV) → Prop} (h : amap H j K) : ∃ es, H[j]? = some (.mp es) ∧ K es := by
  unfold amap at h
  split at h
  · exact ⟨_, by assumption, h⟩
  · exact h.elim
theorem ba_beq (a b : ByteArray) : (a == b) = (a.data.toList == b.data.toList) := by
  rw [Bool.eq_iff_iff]
  have h1 : (a == b) = (a.data == b.data) := rfl
  rw [h1]
  simp only [beq_iff_eq]
  exact ⟨fun h => by rw [h], fun h => Array.toList_inj.1 h⟩
/-- What a map has at a text. -/
theorem amfind_sound {E : Env} {k : ByteArray} : ∀ (es : List (AV × AV)) (vs : List MapEntry) (i : Nat) (K : Option AV → Prop), amfind es k K → VRM E es vs →
    ∃ o, K o ∧ match o with
      | none => Instr.findNow .string (.string k) vs i = some none
      | some x => ∃ n v, Instr.findNow .string (.string k) vs i = some (some (n, v)) ∧ VR E x v
  | [], vs, i, K, h, hv => by cases hv; exact ⟨none, h, rfl⟩
  | (.s x, y) :: es, vs, i, K, h, ⟨e, vs', h1, h2, h3, h4⟩ => by
    subst h1
    have hk : e.key = .string x := h2
    have hsame : Instr.sameNow .string (.string k) e.key = some (k.data.toList == x.data.toList) := by rw [hk, ← ba_beq]; rfl
    unfold amfind at h
    cases ht : (k.data.toList == x.data.toList) with
    | true =>
      rw [ht, acond] at h
      exact ⟨some y, h, i, e.val, by rw [Instr.findNow, hsame, ht], h3⟩
    | false =>
      rw [ht, acond] at h
      obtain ⟨o, h5, h6⟩ := amfind_sound es vs' (i + 1) K h h4
      refine ⟨o, h5, ?_⟩
      have hf : Instr.findNow .string (.string k) (e :: vs') i = Instr.findNow .string (.string k) vs' (i + 1) := by rw [Instr.findNow, hsame, ht]
      cases o with
      | none => exact hf.trans h6
      | some x => obtain ⟨n, v, h7, h8⟩ := h6; exact ⟨n, v, hf.trans h7, h8⟩
  | (.un, _) :: es, _, _, _, h, _ => h.elim
  | (.b _, _) :: es, _, _, _, h, _ => h.elim
  | (.i _ _, _) :: es, _, _, _, h, _ => h.elim
  | (.p _, _) :: es, _, _, _, h, _ => h.elim
  | (.sl _ _ _ _, _) :: es, _, _, _, h, _ => h.elim
  | (.rp _ _, _) :: es, _, _, _, h, _ => h.elim
  | (.rs _ _ _ _, _) :: es, _, _, _, h, _ => h.elim
  | (.fn _ _ _, _) :: es, _, _, _, h, _ => h.elim
  | (.nilf, _) :: es, _, _, _, h, _ => h.elim
  | (.ifc _ _, _) :: es, _, _, _, h, _ => h.elim
  | (.nili, _) :: es, _, _, _, h, _ => h.elim
  | (.agg _, _) :: es, _, _, _, h, _ => h.elim
  | (.tup _, _) :: es, _, _, _, h, _ => h.elim
  | (.m _, _) :: es, _, _, _, h, _ => h.elim
theorem VRM.push {E : Env} : ∀ {xs : List (AV × AV)} {vs : List MapEntry} {k x : AV} {e : MapEntry}, VRM E xs vs → VR E k e.key → VR E x e.val → VRM E (xs ++ [(k, x)]) (vs ++ [e])
  | [], _, _, _, e, h, h1, h2 => by cases h; exact ⟨e, [], rfl, h1, h2, rfl⟩
  | (_, _) :: xs, _, _, _, _, ⟨e, es', h1, h2, h3, h4⟩, h5, h6 => by subst h1; exact ⟨e, _, rfl, h2, h3, VRM.push h4 h5 h6⟩
theorem bysOf_vr {E : Env} : ∀ {L : List Int} {vs : List Value}, VRL E (bysOf L) vs → vs = L.map (Value.int .u8)
  | [], _, h => by cases h; rfl
  | x :: L, _, ⟨v, vs', h1, h2, h3⟩ => by
    subst h1
    rw [bysOf_vr h3, (show v = .int .u8 x from h2)]; rfl
theorem push_strOf : ∀ (L : List Int) (r : ByteArray), L.foldl (fun r n => r.push (UInt8.ofNat n.toNat)) r = ⟨r.data ++ (strOf L).data⟩
  | [], r => by simp [strOf]
  | n :: L, r => by
    simp only [List.foldl_cons]
    rw [push_strOf L]
    simp [ByteArray.push, strOf]
section
variable {P : Program} {T : TT}
variable {nt : Nat} {E : Env} {H : Heap} {w : World} {r : Regs} {a : Act} {o : Oper} {next : Act → World → Prop} {Q : Exit → Act → World → Prop} {K : ARes → Heap → Prop}
theorem aop_copy (hT : TOK P T) (hr : RR nt E r a) (hR : Rel E H w) (hN : Nx E w a o.dst next Q K) {c : Call} (ho : o.op = .call c) (hc : c.callee = .builtin .copy) (ip : Bool) (h : acall P T ip r H c K) : o.wp P a w next Q := by
  obtain ⟨callee, args, tys⟩ := c
  simp only at hc
  subst hc
  simp only [acall] at h
  replace h := evalsK_sound hr h
  obtain ⟨vs, h1, h⟩ := h
  replace h1 : VRL E vs (args.map a.eval).toList := by simpa using h1
  replace h := atT_some h
  obtain ⟨t0, htys, h⟩ := h
  replace h := tiK_some h
  obtain ⟨ti, ht, h⟩ := h
  obtain ⟨d, hd, hdd⟩ := hT.desc ht
  generalize ti.d = D at h hdd
  split at h
  · rename_i e s x
    obtain rfl := desc_sl hdd
    obtain ⟨sv, xv, hargs, hs, hx⟩ := vrl_two h1
    replace h := tiK_some h
    obtain ⟨te, hte, h⟩ := h
    replace h := arow_sound (P := P) hR hx h
    obtain ⟨news, m, vn, h, hvn, hln, ⟨q', cap', hxv⟩, hfn⟩ := h
    split at h
    · rename_i j of_ z' n0 c0
      replace h := h
      replace h := acond_true h
      obtain ⟨hz, hones, h⟩ := h
      obtain rfl := Nat.eq_of_beq_eq_true hz
      replace h := ablk_some h
      obtain ⟨cs, hj, hl, h⟩ := h
      obtain ⟨g, f, q, o', hρ, rfl, hnc, hfit⟩ := hs
      obtain ⟨g', f', b, t', e1, e2, e3⟩ := hR.blk j cs hj
      rw [hρ] at e1
      simp only [Option.some.injEq, Prod.mk.injEq] at e1
      obtain ⟨rfl, rfl, rfl⟩ := e1
      have hlen := hvn.length
      have hmin : min m n0 * te.sz ≤ m * te.sz := Nat.mul_le_mul_right _ (Nat.min_le_left _ _)
      have hmin2 : min m n0 * te.sz ≤ n0 * te.sz := Nat.mul_le_mul_right _ (Nat.min_le_right _ _)
      have hseg : VRL E (news.take (min m n0 * te.sz)) (vn.take (min m n0 * te.sz)) := hvn.vrp.take _ (by omega)
      have hones' : ones (news.take (min m n0 * te.sz)) = true := hones
      have hmm : Nat.min m n0 = min m n0 := rfl
      have hst : ∃ w', (storeCells ⟨g, o', none⟩ (vn.take (min m n0 * te.sz))).run P w = .ok () w' ∧ Rel E (H.set j (.c (setCells cs of_ (news.take (min m n0 * te.sz))))) w' ∧ Ext E w E w' := by
        rcases hfit with ⟨rfl, hfit⟩ | rfl
        · exact store_run hR hj hρ e2 e3 hseg hones' (by simp; omega)
        · have hn0 : n0 = 0 := by omega
          subst hn0
          have e0 : min m 0 * te.sz = 0 := by simp
          rw [e0] at hseg hones' ⊢
          obtain ⟨w', k1, k2, k3⟩ := store_run (P := P) hR hj hρ e2 e3 (us := []) (vs := []) rfl rfl (o := of_) (by simp; omega)
          cases k1
          exact ⟨w, by simp [storeCells], by simpa using k2, k3⟩
      obtain ⟨w', k1, k2, k3⟩ := hst
      refine hN.val h k3 k2 rfl ?_
      have hf := hfn w rfl (min m n0) (Nat.min_le_left _ _)
      have hlx : (Builtin.lenOf xv).run P w = .ok m w := by rw [hxv]; rfl
      simp only [execOp, ho, resolve, Sem.run_bind, Sem.run_pure, Result.andThen_ok, invoke, builtin, Builtin.copy_, arr_of_toList hargs, htys]
      simp [run_underlying hd, hlx, hT.sizeOf hte, hmm, hf, k1, goInt]
    · exact h.elim
  · exact h.elim
theorem zeroCells_eq (z : Array Value) (n : Nat) : (Builtin.zeroCells z n).toList = (List.replicate n z.toList).flatten := by
  have := madeCells_eq z n
  unfold madeCells at this
  unfold Builtin.zeroCells
  exact this
theorem aop_clear (hT : TOK P T) (hr : RR nt E r a) (hR : Rel E H w) (hN : Nx E w a o.dst next Q K) {c : Call} (ho : o.op = .call c) (hc : c.callee = .builtin .clear) (ip : Bool) (h : acall P T ip r H c K) : o.wp P a w next Q := by
  obtain ⟨callee, args, tys⟩ := c
  simp only at hc
  subst hc
  simp only [acall] at h
  replace h := evalsK_sound hr h
  obtain ⟨vs, h1, h⟩ := h
  replace h1 : VRL E vs (args.map a.eval).toList := by simpa using h1
  replace h := atT_some h
  obtain ⟨t0, htys, h⟩ := h
  replace h := tiK_some h
  obtain ⟨ti, ht, h⟩ := h
  obtain ⟨d, hd, hdd⟩ := hT.desc ht
  generalize ti.d = D at h hdd
  split at h
  · rename_i e j of_ z' n0 c0
    obtain rfl := desc_sl hdd
    obtain ⟨sv, hargs, hs⟩ := vrl_one h1
    replace h := tiK_some h
    obtain ⟨te, hte, h⟩ := h
    replace h := h
    replace h := acond_true h
    obtain ⟨hz, h⟩ := h
    simp only [Bool.and_eq_true] at hz
    obtain ⟨hz, hones⟩ := hz
    obtain rfl := Nat.eq_of_beq_eq_true hz
    replace h := ablk_some h
    obtain ⟨cs, hj, hl, h⟩ := h
    obtain ⟨g, f, q, o', hρ, rfl, hnc, hfit⟩ := hs
    obtain ⟨g', f', b, t', e1, e2, e3⟩ := hR.blk j cs hj
    rw [hρ] at e1
    simp only [Option.some.injEq, Prod.mk.injEq] at e1
    obtain ⟨rfl, rfl, rfl⟩ := e1
    obtain ⟨zv, hz1, hz2, hz3⟩ := hT.zeroValue hte w
    have hzc := (hz2 E).cells (zero_kn hT hte)
    have hzl := hzc.length
    have hseg := flatten_vr hzc n0
    have hones' : ones (List.replicate n0 te.zero.cells).flatten = true := by
      have app : ∀ xs ys : List AV, ones xs = true → ones ys = true → ones (xs ++ ys) = true := by
        intro xs
        induction xs with
        | nil => intro ys _ h; exact h
        | cons y zs ih => intro ys h h'; simp only [ones, Bool.and_eq_true, List.cons_append] at h ⊢; exact ⟨h.1, ih ys h.2 h'⟩
      clear h hseg hfit hnc hl hargs h1
      induction n0 with
      | zero => simp [ones]
      | succ n ih => rw [List.replicate_succ, List.flatten_cons]; exact app _ _ hones ih
    have hfl : (List.replicate n0 te.zero.cells).flatten.length = n0 * te.sz := by
      have : te.zero.cells.length = te.sz := by rw [← hzl]; simpa using hz3
      simp [this]
    have hst : ∃ w', (n0 = 0 ∧ w' = w ∨ n0 ≠ 0 ∧ (storeCells ⟨g, o', none⟩ (Builtin.zeroCells zv.cells n0).toList).run P w = .ok () w') ∧ Rel E (H.set j (.c (setCells cs of_ (List.replicate n0 te.zero.cells).flatten))) w' ∧ Ext E w E w' := by
      by_cases hn0 : n0 = 0
      · subst hn0
        obtain ⟨w', k1, k2, k3⟩ := store_run (P := P) hR hj hρ e2 e3 (us := []) (vs := []) rfl rfl (o := of_) (by simp; omega)
        cases k1
        exact ⟨w, .inl ⟨rfl, rfl⟩, by simpa using k2, k3⟩
      · rcases hfit with ⟨rfl, hfit⟩ | rfl
        · obtain ⟨w', k1, k2, k3⟩ := store_run (P := P) hR hj hρ e2 e3 hseg hones' (o := of_) (by rw [hfl]; omega)
          exact ⟨w', .inr ⟨hn0, by rw [zeroCells_eq]; exact k1⟩, k2, k3⟩
        · omega
    obtain ⟨w', k1, k2, k3⟩ := hst
    refine hN.val h k3 k2 ⟨#[], rfl, rfl⟩ ?_
    simp only [execOp, ho, resolve, Sem.run_bind, Sem.run_pure, Result.andThen_ok, invoke, builtin, Builtin.clear_, arr_of_toList hargs, htys]
    rcases k1 with ⟨rfl, rfl⟩ | ⟨hn0, k1⟩
    · simp [run_underlying hd]
    · obtain ⟨n, rfl⟩ : ∃ n, n0 = n + 1 := ⟨n0 - 1, by omega⟩
      simp [run_underlying hd, hz1, k1]
  · exact h.elim
theorem CallsX.mono {f : Nat} {vs : Array Value} {w : World} {Q Q' : Ending → World → Prop} (h : CallsX P f vs w Q) (hq : ∀ e w', Q e w' → Q' e w') : CallsX P f vs w Q' := by
  rcases h with ⟨fn, h1, h2, h3⟩ | ⟨v, w', h1, h2⟩
  · exact .inl ⟨fn, h1, h2, Calls.mono h3 hq⟩
  · exact .inr ⟨v, w', h1, hq _ _ h2⟩
theorem CallsX.calls {f : Nat} {vs : Array Value} {w : World} {Q : Ending → World → Prop} (h : CallsX P f vs w Q) (hb : ∃ fn, P.funcs[f]? = some fn ∧ (fn.name == "runtime.NumGoroutine") = false ∧ fn.body.isNone = false) : Calls P f vs w Q := by
  rcases h with ⟨fn, h1, h2, h3⟩ | ⟨v, w', h1, h2⟩
  · exact h3
  · exfalso
    obtain ⟨fn, k1, k2, k3⟩ := hb
    have n1 : ¬ fn.name = "runtime.NumGoroutine" := by simpa using k2
    have n2 : ¬ fn.body = none := by intro e; rw [e] at k3; cases k3
    simp [callFunc, k1, n1, n2] at h1
theorem aop_val (hN : Nx E w a o.dst next Q K) (hR : Rel E H w) (hr : RR nt E r a) (hT : TOK P T) {f : Operand} {args : Array Operand} {tys : Array TypeId} (ho : o.op = .call ⟨.value f, args, tys⟩) (ip : Bool)
    (h : acall P T ip r H ⟨.value f, args, tys⟩ K) : o.wp P a w next Q := by
  simp only [acall] at h
  replace h := evalK_sound hr h
  obtain ⟨fv, h1, h⟩ := h
  replace h := evalsK_sound hr h
  obtain ⟨vs, h2, h⟩ := h
  split at h
  · rename_i g fs cap
    replace h := h
    obtain ⟨⟨fn, hf1, hf2⟩, h⟩ := h
    obtain ⟨p, q, hfv, h3, h4⟩ := h1
    have hargs : VRL E (fs ++ vs ++ cap) (p ++ args.map a.eval ++ q).toList := by
      simp only [Array.toList_append, Array.toList_map]
      exact (h3.append h2).append h4
    have n1 : ¬ fn.name = "runtime.NumGoroutine" := by simpa using hf2
    rcases h E w _ hR hargs with ⟨fn', hf1', hf3, hcall⟩ | ⟨v, w', hcall, res, E', H', k1, k2, k3, k4⟩
    · rw [hf1] at hf1'
      cases hf1'
      unfold Oper.wp
      have hrun : (execOp a.eval o).run P w = .ok (.enter g (p ++ args.map a.eval ++ q)) w := by
        have n2 : ¬ fn.body = none := by intro e; rw [e] at hf3; cases hf3
        simp [execOp, ho, resolve, hfv, Deferred.ofValue, invoke, callFunc, hf1, n1, n2]
      rw [hrun]
      refine hcall.mono fun e w' ⟨res, E', H', k1, k2, k3, k4⟩ => ?_
      cases res with
      | ret x =>
        cases e with
        | returned v => exact hN.ret x H' E' w' v k3 k1 k2 k4
        | panicked c => exact k4.elim
        | outgrown => exact k4.elim
      | pan x =>
        cases e with
        | returned v => exact k4.elim
        | panicked c => obtain ⟨v, rfl, k4⟩ := k4; exact hN.pan x H' E' w' v k3 k1 k2 k4
        | outgrown => exact k4.elim
    · cases res with
      | ret x =>
        refine hN.val k3 k1 k2 k4 ?_
        rw [Array.append_assoc] at hcall
        simp [execOp, ho, resolve, hfv, Deferred.ofValue, invoke, hcall]
      | pan x => exact k4.elim
  · exact h.elim
end
end Go.AK
namespace Go.AK
open Go Go.RowKit
set_option linter.unusedSectionVars false
variable [Globs]
set_option linter.unusedVariables false
section
variable {P : Program} {T : TT}
variable {nt : Nat} {E : Env} {H : Heap} {w : World} {r : Regs} {a : Act} {o : Oper} {next : Act → World → Prop} {Q : Exit → Act → World → Prop} {K : ARes → Heap → Prop}
theorem aop_sound (hT : TOK P T) (hr : RR nt E r a) (hR : Rel E H w) (hN : Nx E w a o.dst next Q K) (ip : Bool) (h : aop P T ip r H o.op K) : o.wp P a w next Q := by
  have sil : ∀ (h : asil P T r o.op fun v => K (.ret v) H), o.wp P a w next Q := fun h => hN.sil hR (asil_sound hT hr h)
  generalize hop : o.op = op at h
  cases op
  case box t x =>
    simp only [aop] at h
    replace h := evalK_sound hr h
    obtain ⟨v, h1, h⟩ := h
    replace h := acond_true h
    obtain ⟨hb, h⟩ := h
    exact hN.new hR (t := t) (h1.cells (kn_of_one hb)) (y := .p (some (H.length, 0))) (v := .pointer (some ⟨w.heap.size, 0, none⟩)) (fun E' hE => ⟨_, 0, _, hE, rfl⟩) h (by simp [execOp, hop, Instr.box, newVar, newRow])
  case alloc t =>
    simp only [aop] at h
    replace h := tiK_some h
    obtain ⟨ti, ht, h⟩ := h
    replace h := acond_true h
    obtain ⟨hb, h⟩ := h
    obtain ⟨z, hz1, hz2, hz3⟩ := hT.zeroValue ht w
    exact hN.new hR (t := t) ((hz2 E).cells (kn_of_one hb)) (y := .p (some (H.length, 0))) (v := .pointer (some ⟨w.heap.size, 0, none⟩)) (fun E' hE => ⟨_, 0, _, hE, rfl⟩) h (by simp [execOp, hop, Instr.alloc, hz1, newVar, newRow])
  case buildSlice t n ps =>
    simp only [aop] at h
    replace h := tiK_some h
    obtain ⟨ti, ht, h⟩ := h
    obtain ⟨d, hd, hdd⟩ := hT.desc ht
    generalize ti.d = D at h hdd
    split at h
    · rename_i e
      obtain rfl := desc_sl hdd
      replace h := tiK_some h
      obtain ⟨te, hte, h⟩ := h
      replace h := evalsK_sound hr h
      obtain ⟨vs, h1, h⟩ := h
      replace h := acond_true h
      obtain ⟨hb, h⟩ := h
      have hb : n * te.sz ≤ 16777216 := Nat.le_of_ble_eq_true hb
      obtain ⟨z, hz1, hz2, hz3⟩ := hT.zeroValue hte w
      have hzc := (hz2 E).cells (zero_kn hT hte)
      have hlen := h1.length
      have hps : (ps.toList.map (·.1)).length = vs.length := by simp at hlen ⊢; omega
      have hfl := flatten_vr hzc n
      rw [← madeCells_eq] at hfl
      obtain ⟨ds, c, k1, k2, k3, k4⟩ := afill_sound (place' := fun i => some (i * te.sz, te.sz)) (fun _ _ hx => hx) ((ps.toList.map (·.1)).zip vs) ((ps.map fun p => (p.1, a.eval p.2)).toList) _ _ h hfl
        (by rw [List.map_fst_zip (by omega)]; simp) (by rw [List.map_snd_zip (by omega)]; simpa [Function.comp_def] using h1)
      obtain ⟨hb2, k1⟩ := acond_true k1
      have hcs : c.size = n * te.sz := by
        have e1 := k2.length
        have e2 : (madeCells z.cells (n * z.cells.size)).toList.length = n * te.sz := by rw [Array.length_toList, size_madeCells, hz3]
        have e3 := hfl.length
        rw [← Array.length_toList, e1, k3, ← e3, e2]
      refine hN.new hR (t := e) k2 (y := .sl (some (H.length, 0)) te.sz n n) (v := .slice (some ⟨w.heap.size, 0, none⟩) n n) (fun E' hE => ⟨_, 0, _, 0, hE, rfl, Nat.le_refl _, .inl ⟨rfl, by omega⟩⟩) k1 ?_
      rw [hz3] at k4
      have k4' : Instr.fill (fun i => some (i * te.sz, te.sz)) (madeCells z.cells (n * te.sz)) (ps.toList.map fun p => (p.1, a.eval p.2)) = some c := by simpa using k4
      have hnot : ¬ (16777216 < n * te.sz) := by omega
      by_cases h0 : n * te.sz = 0
      · have hm : madeCells z.cells (n * te.sz) = #[] := by rw [h0]; simp [madeCells, Array.range_zero']
        rw [hm] at k4'
        simp [execOp, hop, Instr.buildSlice, run_underlying hd, hT.sizeOf hte, h0, Array.range_zero', k4', newRow]
      · have hm : ((Array.range (n * te.sz)).map (z.cells[· % z.cells.size]!)) = madeCells z.cells (n * te.sz) := rfl
        simp only [execOp, hop, Instr.buildSlice, Sem.run_bind, run_underlying hd, hT.sizeOf hte, Result.andThen_ok]
        simp [hnot, h0, hz1, k4', newRow, hm]
    · exact h.elim
  case load t x =>
    simp only [aop] at h
    replace h := evalK_sound hr h
    obtain ⟨v, h1, h⟩ := h
    replace h := tiK_some h
    obtain ⟨ti, ht, h⟩ := h
    split at h
    · rename_i j of_
      replace h := ablk_some h
      obtain ⟨cs, hj, h⟩ := h
      obtain ⟨g, f, q, hρ, hv⟩ := h1
      obtain ⟨g', f', b, t', e1, e2, e3⟩ := hR.blk j cs hj
      rw [hρ] at e1
      simp only [Option.some.injEq, Prod.mk.injEq] at e1
      obtain ⟨rfl, rfl, rfl⟩ := e1
      obtain ⟨y, u, h6, h7, h8⟩ := loadVar_run hT ht e2 e3 h
      exact hN.val h7 (.refl E w) hR h6 (by simp [execOp, hop, hv, Instr.loadAt, Instr.sureAddr, h8 w e2])
    · obtain ⟨g, f, c, t', fz, h3, h4, h5⟩ := h1
      obtain ⟨y, u, h6, h7, h8⟩ := loadVar_run hT ht (hR.im _ _ h3) h5 h
      exact hN.val h7 (.refl E w) hR h6 (by simp [execOp, hop, h4, Instr.loadAt, Instr.sureAddr, h8 w (hR.im _ _ h3)])
    · exact h.elim
  case store t x y => exact aop_store hT hr hR hN hop ip h
  case makeSlice t l c =>
    simp only [aop] at h
    replace h := tiK_some h
    obtain ⟨ti, ht, h⟩ := h
    replace h := evalK_sound hr h
    obtain ⟨lv, h1, h⟩ := h
    replace h := evalK_sound hr h
    obtain ⟨cv, h2, h⟩ := h
    obtain ⟨d, hd, hdd⟩ := hT.desc ht
    generalize ti.d = D at h hdd
    split at h
    · rename_i e k l' k' c'
      obtain rfl := desc_sl hdd
      replace h := tiK_some h
      obtain ⟨te, hte, h⟩ := h
      replace h := h
      obtain ⟨⟨p1, p2, p3, p4⟩, h⟩ := h
      obtain ⟨i, z, hi1, hi2, hi3, hi4, hi5, hi6⟩ := hT.info hte
      have hzc := (hi5 E).cells (zero_kn hT hte)
      have h1' : a.eval l = .int k l' := h1
      have h2' : a.eval c = .int k' c' := h2
      have hrun := run_make (P := P) w t e i z hd hi1 hi4 k k' l' c' p1 p2 (by rw [hi3]; exact p3) p4
      have hfl := flatten_vr hzc c'.toNat
      rw [← madeCells_eq, hi6, ← hi2] at hfl
      refine hN.new hR (t := e) hfl (y := .sl (some (H.length, 0)) te.sz l'.toNat c'.toNat) (v := .slice (some ⟨w.heap.size, 0, none⟩) l'.toNat c'.toNat) (fun E' hE => ⟨_, 0, _, 0, hE, rfl, by omega, .inl ⟨rfl, by rw [size_madeCells, hi2]; omega⟩⟩) h ?_
      simp [execOp, hop, h1', h2', hrun]
    · exact h.elim
  case panic x =>
    simp only [aop] at h
    replace h := evalK_sound hr h
    obtain ⟨v, h1, h⟩ := h
    split at h
    · obtain ⟨u, hu, h3⟩ := h1
      unfold Oper.wp
      have hrun : (execOp a.eval o).run P w = .halt (.panic (a.eval x)) w := by simp [execOp, hop, hu, Instr.panic, goPanic]
      rw [hrun]
      exact hN.pan _ H E w _ h (.refl E w) hR ⟨u, hu, h3⟩
    · exact h.elim
  case slice t x lo hi mx =>
    simp only [aop] at h
    have h0 := h
    replace h := tiK_some h
    obtain ⟨ti, ht, h⟩ := h
    replace h := evalK_sound hr h
    obtain ⟨v, h1, h⟩ := h
    obtain ⟨d, hd, hdd⟩ := hT.desc ht
    split at h
    · rename_i j of_
      generalize ti.d = D at h hdd
      split at h
      · rename_i n e
        obtain rfl := desc_arr hdd
        replace h := tiK_some h
        obtain ⟨te, hte, h⟩ := h
        replace h := acond_true h
        obtain ⟨hz, h⟩ := h
        replace hz := Nat.eq_of_beq_eq_true hz
        replace h := ablk_some h
        obtain ⟨cs, hj, hfit, h⟩ := h
        obtain ⟨l, h, hl⟩ := aopt_sound hr h
        obtain ⟨u, h, hu⟩ := aopt_sound hr h
        obtain ⟨l', r', k1, k2, k3, _, k4⟩ := abounds_sound (P := P) h (Nat.le_refl _) hl hu false
        obtain ⟨g, f, q, hρ, hv⟩ := h1
        obtain ⟨g', f', b, t', e1, e2, e3⟩ := hR.blk j cs hj
        rw [hρ] at e1
        simp only [Option.some.injEq, Prod.mk.injEq] at e1
        obtain ⟨rfl, rfl, rfl⟩ := e1
        have hbl := e3.length
        simp only [List.length_drop, Array.length_toList] at hbl
        refine hN.val (v := .slice (if n = l' then some ⟨g, f + of_, none⟩ else some ⟨g, f + of_ + l', none⟩) (r' - l') (n - l')) k1 (.refl E w) hR ?_ ?_
        · by_cases e : n = l'
          · rw [if_pos e]; exact ⟨g, f, _, _, hρ, rfl, by omega, .inr (by omega)⟩
          · rw [if_neg e]; exact ⟨g, f, _, _, hρ, rfl, by omega, .inl ⟨by omega, by omega⟩⟩
        · have hs : ∀ w, (sizeOf e).run P w = .ok 1 w := fun w => by rw [← hz]; exact hT.sizeOf hte w
          simp only [execOp, hop, Instr.sliceAt, Instr.sureAddr, hv, Option.map_none, Sem.run_bind, Sem.run_pure, run_underlying hd, Result.andThen_ok, k4, hs]
          by_cases e : n = l'
          · simp [e]
          · simp [e, add_zero_addr]
      · exact h.elim
    · exact sil (hop ▸ h)
  case convert s d x =>
    simp only [aop] at h
    have byt : ∀ v, VR E v (a.eval x) → abytes T H s d v (fun v => K (.ret v) H) → o.wp P a w next Q := by
      intro v h1 h
      unfold abytes at h
      obtain ⟨ts, hts, h⟩ := tiK_some h
      obtain ⟨td, htd, h⟩ := tiK_some h
      obtain ⟨ds, hds, hdds⟩ := hT.desc hts
      obtain ⟨dd, hdd, hddd⟩ := hT.desc htd
      generalize ts.d = D1 at h hdds
      generalize td.d = D2 at h hddd
      split at h
      · rename_i e
        obtain rfl := desc_sl hdds
        obtain rfl := desc_str hddd
        obtain ⟨te, hte, h⟩ := tiK_some h
        obtain ⟨de, hde, hdde⟩ := hT.desc hte
        generalize te.d = D3 at h hdde
        split at h
        · obtain rfl := desc_int hdde
          obtain ⟨hz, h⟩ := acond_true h
          obtain ⟨cells, n, vs, ⟨L, hL, hK⟩, hv, hl, ⟨q, c, ha⟩, hrun⟩ := arow_sound (P := P) hR h1 h
          subst hL
          obtain rfl := bysOf_vr hv
          have h5 := hrun w rfl n (Nat.le_refl _)
          simp only [List.length_map, Nat.mul_one] at hl
          rw [ha] at h5
          have h6 : (convert s d (.slice q n c)).run P w = .ok (.string (strOf L)) w := by
            rw [run_convert_bytes_string w s d e q n c hds hde hdd]
            cases q with
            | none =>
              have h7 : (Builtin.firstCells 1 n (.slice none n c)).run P w = .ok #[] w := rfl
              rw [h7] at h5
              injection h5 with h5 _
              have h8 := congrArg Array.size h5
              simp only [List.size_toArray, List.length_take, List.length_map, Nat.mul_one] at h8
              have : L = [] := List.eq_nil_of_length_eq_zero (by rw [hl, Nat.min_self] at h8; simp at h8; omega)
              subst this
              rfl
            | some q =>
              have h7 : (loadCells q n).run P w = .ok (L.map (Value.int .u8)).toArray w := by
                have h8 : (loadCells q (n * 1)).run P w = .ok ((L.map (Value.int .u8)).take (n * 1)).toArray w := h5
                rw [Nat.mul_one, List.take_of_length_le (by simp; omega)] at h8
                exact h8
              rw [run_bytesToString w q n c L h7, push_strOf]
              simp [strOf]
          exact hN.val (v := .string (strOf L)) hK (.refl E w) hR rfl (by simp [execOp, hop, ha, h6])
        · exact h.elim
      · exact h.elim
    have h0 := h
    obtain ⟨v, h1, h⟩ := evalK_sound hr h
    split at h
    · exact byt _ h1 h
    · exact byt _ h1 h
    · exact sil (hop ▸ h)
  case makeMap t rs =>
    cases rs with
    | some _ => exact sil (hop ▸ h)
    | none =>
      simp only [aop] at h
      obtain ⟨k1, k2⟩ := hR.allocM (cs := []) (es0 := #[]) (k0 := 0) 0 0 rfl
      refine hN.val (v := .map (some w.heap.size)) h k2 k1 ⟨w.heap.size, 0, 0, ?_, rfl⟩ (by simp [execOp, hop, run_makeMap_plain])
      simp only [Env.push]; rw [← hR.len, List.getElem?_append_right (Nat.le_refl _)]; simp
  case insert t m k x =>
    simp only [aop] at h
    obtain ⟨ti, ht, h⟩ := tiK_some h
    obtain ⟨d, hd, hdd⟩ := hT.desc ht
    generalize ti.d = D at h hdd
    split at h
    · rename_i kt et
      have : d = .map kt et := by cases d <;> simp_all [descB]
      subst this
      obtain ⟨tk, htk, h⟩ := tiK_some h
      obtain ⟨mv, h1, h⟩ := evalK_sound hr h
      obtain ⟨kv, h2, h⟩ := evalK_sound hr h
      obtain ⟨xv, h3, h⟩ := evalK_sound hr h
      obtain ⟨dk, hdk, hddk⟩ := hT.desc htk
      generalize tk.d = D2 at h hddk
      split at h
      · rename_i j key _ _
        obtain rfl := desc_str hddk
        obtain ⟨es, hj, h⟩ := amap_some h
        obtain ⟨g, f, q, hρ, hm⟩ := h1
        obtain ⟨g', f', q', es', k0, e1, e2, e3⟩ := hR.mp j es hj
        rw [hρ] at e1
        simp only [Option.some.injEq, Prod.mk.injEq] at e1
        obtain ⟨rfl, rfl, rfl⟩ := e1
        obtain ⟨oo, h4, h5⟩ := amfind_sound (E := E) es es'.toList 0 _ h e3
        have hk2 : a.eval k = .string key := h2
        cases oo with
        | some _ => exact h4.elim
        | none =>
          have hc : (Instr.checkKey false 10000 kt (.string key)).run P w = .ok () w := MapKept.run_checkKey hdk (by simp [MapKept.IsKey]) false 9999
          obtain ⟨k1, k2⟩ := hR.setMap (cs' := es ++ [(.s key, xv)]) (c' := es'.push { key := .string key, val := a.eval x, born := k0 }) (k1 := k0 + 1) hj hρ e2 (by rw [Array.toList_push]; exact e3.push rfl h3)
          refine hN.skip h4 k2 k1 ?_
          simp [execOp, hop, hm, hk2, Instr.mapUpdate, run_underlying hd, MapKept.run_getObj_map e2, hc, MapKept.run_findKey hdk h5, MapKept.run_setObj_map _ e2, Result.andThen]
      · exact h.elim
    · exact h.elim
  case lookup t m k ok =>
    simp only [aop] at h
    obtain ⟨ti, ht, h⟩ := tiK_some h
    obtain ⟨d, hd, hdd⟩ := hT.desc ht
    generalize ti.d = D at h hdd
    split at h
    · rename_i kt et
      have : d = .map kt et := by cases d <;> simp_all [descB]
      subst this
      obtain ⟨tk, htk, h⟩ := tiK_some h
      obtain ⟨te, hte, h⟩ := tiK_some h
      obtain ⟨mv, h1, h⟩ := evalK_sound hr h
      obtain ⟨kv, h2, h⟩ := evalK_sound hr h
      obtain ⟨dk, hdk, hddk⟩ := hT.desc htk
      generalize tk.d = D2 at h hddk
      split at h
      · rename_i j key _
        obtain rfl := desc_str hddk
        obtain ⟨es, hj, h⟩ := amap_some h
        obtain ⟨g, f, q, hρ, hm⟩ := h1
        obtain ⟨g', f', q', es', k0, e1, e2, e3⟩ := hR.mp j es hj
        rw [hρ] at e1
        simp only [Option.some.injEq, Prod.mk.injEq] at e1
        obtain ⟨rfl, rfl, rfl⟩ := e1
        obtain ⟨oo, h4, h5⟩ := amfind_sound (E := E) es es'.toList 0 _ h e3
        have hk2 : a.eval k = .string key := h2
        have hc : (Instr.checkKey es'.isEmpty 10000 kt (.string key)).run P w = .ok () w := MapKept.run_checkKey hdk (by simp [MapKept.IsKey]) _ 9999
        obtain ⟨z, hz1, hz2, hz3⟩ := hT.zeroValue hte w
        cases oo with
        | none =>
          have hrun : ∀ ok', (Instr.lookup t (.map (some g)) (.string key) ok').run P w = .ok (if ok' then .tuple #[z, .bool false] else z) w := fun ok' => by
            simp [Instr.lookup, run_underlying hd, MapKept.run_getObj_map e2, hc, MapKept.run_findKey hdk h5, hz1, Result.andThen]
          cases ok with
          | true => exact hN.val (v := .tuple #[z, .bool false]) h4 (.refl E w) hR ⟨_, rfl, ⟨_, _, rfl, hz2 E, ⟨_, _, rfl, rfl, rfl⟩⟩⟩ (by simp [execOp, hop, hm, hk2, hrun])
          | false => exact hN.val (v := z) h4 (.refl E w) hR (hz2 E) (by simp [execOp, hop, hm, hk2, hrun])
        | some x =>
          obtain ⟨n, v, h5, h6⟩ := h5
          have hrun : ∀ ok', (Instr.lookup t (.map (some g)) (.string key) ok').run P w = .ok (if ok' then .tuple #[v, .bool true] else v) w := fun ok' => by
            simp [Instr.lookup, run_underlying hd, MapKept.run_getObj_map e2, hc, MapKept.run_findKey hdk h5, Result.andThen]
          cases ok with
          | true => exact hN.val (v := .tuple #[v, .bool true]) h4 (.refl E w) hR ⟨_, rfl, ⟨_, _, rfl, h6, ⟨_, _, rfl, rfl, rfl⟩⟩⟩ (by simp [execOp, hop, hm, hk2, hrun])
          | false => exact hN.val (v := v) h4 (.refl E w) hR h6 (by simp [execOp, hop, hm, hk2, hrun])
      · exact h.elim
    · exact h.elim
  case call c =>
    simp only [aop] at h
    obtain ⟨callee, args, tys⟩ := c
    cases callee with
    | value f => exact aop_val hN hR hr hT hop ip h
    | invoke x m => exact h.elim
    | builtin b =>
      by_cases hb1 : b = .append
      · subst hb1; exact aop_append hT hr hR hN hop rfl ip h
      · by_cases hb2 : b = .copy
        · subst hb2; exact aop_copy hT hr hR hN hop rfl ip h
        · by_cases hb3 : b = .clear
          · subst hb3; exact aop_clear hT hr hR hN hop rfl ip h
          · refine sil ?_
            rw [hop]
            cases b <;> first | exact absurd rfl hb1 | exact absurd rfl hb2 | exact absurd rfl hb3 | exact h
  all_goals exact sil (hop ▸ h)
end
end Go.AK
namespace Go.AK
open Go Go.RowKit
set_option linter.unusedSectionVars false
variable [Globs]
/-- What a body has deferred so far. -/
structure DefsD where
  ds : List Deferred
abbrev Defs := Inhabited DefsD
abbrev Defs.ds [D : Defs] : List Deferred := D.default.ds
instance (priority := low) noDefs : Defs := ⟨⟨[]⟩⟩
variable [Defs]
set_option linter.unusedVariables false
/-- How a way out is told. -/
def XR (E : Env) : AX → Exit → Prop
  | .normal, .normal => True
  | .exit i, .exit j => i = j
  | .ret, .ret => True
  | .panic x, .panic chain => ∃ v, chain = [{ v, recovered := false }] ∧ VR E x v
  | _, _ => False
/-- The state within a function's body: n0 blocks were there when it began. -/
structure BR (n0 nt : Nat) (E0 : Env) (w0 : World) (E : Env) (r : Regs) (H : Heap) (a : Act) (w : World) : Prop where
  len0 : E0.ρ.length = n0
  ext : Ext E0 w0 E w
  rel : Rel E H w
  rr : RR nt E r a
  nd : a.defers = Defs.ds
def Post (n0 nt : Nat) (E0 : Env) (w0 : World) (Q : AX → Regs → Heap → Prop) : Exit → Act → World → Prop :=
  fun e a w => ∃ x E r H, XR E x e ∧ BR n0 nt E0 w0 E r H a w ∧ Q x r H
/-- What a piece of code does, said of the abstract state. -/
def SW (P : Program) (n0 nt : Nat) (c : Code) (r : Regs) (H : Heap) (Q : AX → Regs → Heap → Prop) : Prop :=
  ∀ E0 w0 E a w, BR n0 nt E0 w0 E r H a w → c.wp P (Post n0 nt E0 w0 Q) a w
structure ALoop (P : Program) (n0 nt : Nat) (c : Code) (r : Regs) (H : Heap) (Q : AX → Regs → Heap → Prop) : Prop where
  out : SW P n0 nt (.loop c) r H Q
structure ADraw (P : Program) (n0 nt : Nat) (ops : Array Oper) (r : Regs) (H : Heap) (Q : AX → Regs → Heap → Prop) : Prop where
  out : ∀ id, SW P n0 nt (.region id ops true) r H Q
def AW (P : Program) (T : TT) (ip : Bool) (n0 nt : Nat) : Code → Regs → Heap → (AX → Regs → Heap → Prop) → Prop
  | .skip, r, H, Q => Q .normal r H
  | .region _ ops draw, r, H, Q => match draw with
    | false => aops P T ip nt ops Q ops.toList r H
    | true => ADraw P n0 nt ops r H Q
  | .seq x y, r, H, Q => AW P T ip n0 nt x r H fun e r H => match e with
    | .normal => AW P T ip n0 nt y r H Q
    | .exit i => Q (.exit i) r H
    | .ret => Q .ret r H
    | .panic v => Q (.panic v) r H
  | .cond c x y, r, H, Q => evalK r c fun v => match v with
    | .b t => acond t (AW P T ip n0 nt x r H Q) (AW P T ip n0 nt y r H Q)
    | _ => False
  | .block id c, r, H, Q => AW P T ip n0 nt c r H fun e r H => match e with
    | .exit i => acond (Nat.beq i id) (Q .normal r H) (Q (.exit i) r H)
    | .normal => Q .normal r H
    | .ret => Q .ret r H
    | .panic v => Q (.panic v) r H
  | .loop c, r, H, Q => ALoop P n0 nt c r H Q
  | .exit id, r, H, Q => Q (.exit id) r H
  | .ret, r, H, Q => Q .ret r H
  | .scope c, r, H, Q => AW P T ip n0 nt c r H Q
  | .label _, r, H, Q => Q .normal r H
  | _, _, _, _ => False
section
variable {P : Program} {T : TT} {ip : Bool} {n0 nt : Nat}
theorem RR.mono {E E' : Env} {r : Regs} {a : Act} (h : RR nt E r a) (k : E.le E') : RR nt E' r a := ⟨h.size, fun t v ht => ⟨(h.regs t v ht).1, (h.regs t v ht).2.mono k⟩⟩
theorem RR.put {E : Env} {r : Regs} {a : Act} (h : RR nt E r a) {d : Nat} (hd : d < nt) {x : AV} {v : Value} (hv : VR E x v) : RR nt E ((d, x) :: r) (a.put (some d) v) := by
  refine ⟨by simpa [Act.put] using h.size, fun t u ht => ?_⟩
  unfold getR at ht
  split at ht
  · rename_i hb
    have e : d = t := Nat.eq_of_beq_eq_true hb
    subst e
    cases ht
    refine ⟨hd, ?_⟩
    have : (a.put (some d) v).tmps.getD d undef = v := by
      simp [Act.put, h.size, hd]
    rw [this]; exact hv
  · rename_i hb
    have e : d ≠ t := fun e => by subst e; simp at hb
    have h1 := h.regs t u ht
    refine ⟨h1.1, ?_⟩
    have : (a.put (some d) v).tmps.getD t undef = a.tmps.getD t undef := by
      simp [Act.put, Array.getElem?_setIfInBounds_ne e]
    rw [this]; exact h1.2
theorem BR.step {E0 E E' : Env} {w0 w w' : World} {r : Regs} {H H' : Heap} {a : Act} (h : BR n0 nt E0 w0 E r H a w) (he : Ext E w E' w') (hR : Rel E' H' w') : BR n0 nt E0 w0 E' r H' a w' :=
  ⟨h.len0, h.ext.trans he, hR, h.rr.mono he.le, h.nd⟩
theorem putD_sound {E0 E : Env} {w0 w : World} {r : Regs} {H : Heap} {a : Act} (h : BR n0 nt E0 w0 E r H a w) {d : Option Nat} {x : AV} {v : Value} (hv : VR E x v) {K : Regs → Prop} (hk : putD nt d x r K) :
    ∃ r', K r' ∧ BR n0 nt E0 w0 E r' H (a.put d v) w := by
  unfold putD at hk
  split at hk
  · rename_i d
    obtain ⟨hb, hk⟩ := acond_true hk
    have hd : d < nt := Nat.lt_of_succ_le (Nat.le_of_ble_eq_true hb)
    exact ⟨_, hk, h.len0, h.ext, h.rel, h.rr.put hd hv, h.nd⟩
  · exact ⟨r, hk, h⟩
theorem astep_sound (hT : TOK P T) {E0 E : Env} {w0 w : World} {r : Regs} {H : Heap} {a : Act} (h : BR n0 nt E0 w0 E r H a w) {all : Array Oper} {o : Oper} {K : ARes → Regs → Heap → Prop} (hk : astep P T ip nt all r H o K)
    {next : Act → World → Prop} {Q : Exit → Act → World → Prop}
    (hn : ∀ x r' H' E' a' w', K (.ret x) r' H' → BR n0 nt E0 w0 E' r' H' a' w' → next a' w')
    (hp : ∀ x r' H' E' w' v, K (.pan x) r' H' → BR n0 nt E0 w0 E' r' H' a w' → VR E' x v → Q (.panic [{ v, recovered := false }]) a w') :
    if Region.wanted o (yielded all a.tmps) then o.wp P a w next Q else next (a.put o.dst undef) w := by
  have run : ∀ (hk : aop P T ip r H o.op fun v H' => match v with
      | .ret v => putD nt o.dst v r fun r' => K (.ret v) r' H'
      | .pan v => K (.pan v) r H'), o.wp P a w next Q := fun hk => by
    refine aop_sound hT h.rr h.rel ⟨fun x H' E' w' v k1 k2 k3 k4 => ?_, fun x H' E' w' v k1 k2 k3 k4 => ?_⟩ ip hk
    · obtain ⟨r', k5, k6⟩ := putD_sound (h.step k2 k3) k4 k1
      exact hn _ _ _ _ _ _ k5 k6
    · exact hp _ _ _ _ _ _ k1 (h.step k2 k3) k4
  have skip : ∀ (hk : putD nt o.dst (.tup []) r fun r' => K (.ret (.tup [])) r' H), next (a.put o.dst undef) w := fun hk => by
    obtain ⟨r', k5, k6⟩ := putD_sound h (x := .tup []) (v := undef) ⟨#[], rfl, rfl⟩ hk
    exact hn _ _ _ _ _ _ k5 k6
  unfold astep at hk
  cases hg : o.guard with
  | none =>
    rw [hg] at hk
    have hw : Region.wanted o (yielded all a.tmps) = true := by simp [Region.wanted, hg]
    rw [if_pos hw]; exact run hk
  | some p =>
    obtain ⟨j, want⟩ := p
    rw [hg] at hk
    simp only at hk
    cases hd : (all[j]?).bind (·.dst) with
    | none => rw [hd] at hk; exact hk.elim
    | some d =>
      rw [hd] at hk
      simp only at hk
      have hy : yielded all a.tmps j = (match a.tmps[d]? with | some (.bool b) => some b | _ => none) := by
        unfold yielded
        rw [hd]
        simp only [Option.bind_some]
        rfl
      split at hk
      · rename_i t ht
        obtain ⟨h1, h2⟩ := h.rr.regs _ _ ht
        have h3 : a.tmps.getD d undef = .bool t := h2
        have h4 : a.tmps[d]? = some (.bool t) := by
          have hl : d < a.tmps.size := by rw [h.rr.size]; exact h1
          simp [hl] at h3 ⊢; exact h3
        have hw : Region.wanted o (yielded all a.tmps) = (t == want) := by
          simp only [Region.wanted, hg, hy, h4]
          cases t <;> cases want <;> rfl
        rw [hw]
        cases want <;> cases t
        · exact (by simpa using run hk)
        · exact (by simpa using skip hk)
        · exact (by simpa using skip hk)
        · exact (by simpa using run hk)
      · rename_i ht
        obtain ⟨h1, q, h2, h3⟩ := h.rr.regs _ _ ht
        have h4 : a.tmps[d]? = some (.tuple q) := by
          have hl : d < a.tmps.size := by rw [h.rr.size]; exact h1
          simp [hl] at h2 ⊢; exact h2
        have hw : Region.wanted o (yielded all a.tmps) = false := by
          simp only [Region.wanted, hg, hy, h4]
          rfl
        rw [hw]
        exact (by simpa using skip hk)
      · exact hk.elim
theorem aops_sound (hT : TOK P T) {E0 : Env} {w0 : World} {all : Array Oper} {Q : AX → Regs → Heap → Prop} : ∀ (os : List Oper) (k : Nat), os = all.toList.drop k → ∀ (E : Env) (w : World) (r : Regs) (H : Heap) (a : Act),
    BR n0 nt E0 w0 E r H a w → aops P T ip nt all Q os r H → wpOps P all (Post n0 nt E0 w0 Q) (List.range' k os.length) a w
  | [], k, _, E, w, r, H, a, h, hk => ⟨.normal, E, r, H, trivial, h, hk⟩
  | o :: os, k, he, E, w, r, H, a, h, hk => by
    have ho : all[k]? = some o := by
      have : (all.toList.drop k)[0]? = some o := by rw [← he]; rfl
      rw [List.getElem?_drop] at this
      simpa using this
    have hos : os = all.toList.drop (k + 1) := by
      rw [← List.drop_drop, ← he]; rfl
    simp only [List.length_cons, List.range'_succ, wpOps, ho]
    have := astep_sound hT h hk (next := wpOps P all (Post n0 nt E0 w0 Q) (List.range' (k + 1) os.length)) (Q := Post n0 nt E0 w0 Q)
      (fun x r' H' E' a' w' k1 k2 => aops_sound hT os (k + 1) hos E' w' r' H' a' k2 k1)
      (fun x r' H' E' w' v k1 k2 k3 => ⟨.panic x, E', r', H', ⟨v, rfl, k3⟩, k2, k1⟩)
    split at this
    · rename_i hw; rw [if_pos hw]; exact .inl this
    · rename_i hw; rw [if_neg hw]; exact this
theorem AW_sound (hT : TOK P T) : ∀ (c : Code) (r : Regs) (H : Heap) (Q : AX → Regs → Heap → Prop), AW P T ip n0 nt c r H Q → SW P n0 nt c r H Q
  | .skip, r, H, Q, h => fun E0 w0 E a w hb => wp_skip ⟨.normal, E, r, H, trivial, hb, h⟩
  | .region id ops draw, r, H, Q, h => by
    cases draw with
    | false =>
      intro E0 w0 E a w hb
      refine wp_region ?_
      have := aops_sound hT (Q := Q) ops.toList 0 (by simp) E w r H a hb h
      rwa [← List.range_eq_range', Array.length_toList] at this
    | true => exact fun E0 w0 E a w hb => h.out id E0 w0 E a w hb
  | .seq x y, r, H, Q, h => by
    intro E0 w0 E a w hb
    refine wp_seq ?_
    refine wp_mono (AW_sound hT x r H _ h E0 w0 E a w hb) fun e a' w' ⟨x', E', r', H', k1, k2, k3⟩ => ?_
    cases x' <;> cases e <;> first | exact k1.elim | skip
    · exact AW_sound hT y r' H' Q k3 E0 w0 E' a' w' k2
    · cases k1; exact ⟨.exit _, E', r', H', rfl, k2, k3⟩
    · exact ⟨.ret, E', r', H', trivial, k2, k3⟩
    · exact ⟨.panic _, E', r', H', k1, k2, k3⟩
  | .cond c x y, r, H, Q, h => by
    intro E0 w0 E a w hb
    obtain ⟨v, h1, h⟩ := evalK_sound hb.rr h
    cases v <;> first | exact h.elim | skip
    rename_i t
    have h1' : a.eval c = .bool t := h1
    refine wp_cond h1' ?_
    cases t
    · exact AW_sound hT y r H Q h E0 w0 E a w hb
    · exact AW_sound hT x r H Q h E0 w0 E a w hb
  | .block id c, r, H, Q, h => by
    intro E0 w0 E a w hb
    refine wp_block ?_
    refine wp_mono (AW_sound hT c r H _ h E0 w0 E a w hb) fun e a' w' ⟨x', E', r', H', k1, k2, k3⟩ => ?_
    cases x' <;> cases e <;> first | exact k1.elim | skip
    · exact ⟨.normal, E', r', H', trivial, k2, k3⟩
    · rename_i i j _
      replace k1 : i = j := k1
      subst k1
      cases hi : Nat.beq i id with
      | true =>
        have e : i = id := Nat.eq_of_beq_eq_true hi
        simp only [hi] at k3
        simp only [Exit.inBlock, e, if_true]
        exact ⟨.normal, E', r', H', trivial, k2, k3⟩
      | false =>
        have e : i ≠ id := fun e => by subst e; simp at hi
        simp only [hi] at k3
        simp only [Exit.inBlock, e, if_false]
        exact ⟨.exit i, E', r', H', rfl, k2, k3⟩
    · exact ⟨.ret, E', r', H', trivial, k2, k3⟩
    · exact ⟨.panic _, E', r', H', k1, k2, k3⟩
  | .loop c, r, H, Q, h => h.out
  | .exit id, r, H, Q, h => fun E0 w0 E a w hb => wp_exit ⟨.exit id, E, r, H, rfl, hb, h⟩
  | .ret, r, H, Q, h => fun E0 w0 E a w hb => wp_ret ⟨.ret, E, r, H, trivial, hb, h⟩
  | .scope c, r, H, Q, h => by
    intro E0 w0 E a w hb
    refine wp_scope_straight ?_
    refine wp_mono (AW_sound hT c r H Q h E0 w0 E a w hb) fun e a' w' k => ?_
    cases e <;> first | exact k | skip
    obtain ⟨x', E', r', H', k1, _⟩ := k
    cases x' <;> exact k1.elim
  | .label l, r, H, Q, h => fun E0 w0 E a w hb => wp_label ⟨.normal, E, r, H, trivial, hb, h⟩
  | .rangeFunc .., _, _, _, h => h.elim
  | .goto .., _, _, _, h => h.elim
  | .refuse .., _, _, _, h => h.elim
/-- A change of the state that is none of the program's. -/
def Gh (n0 nt : Nat) (R : Regs → Heap → Prop) (r : Regs) (H : Heap) : Prop :=
  ∀ E0 w0 E a w, BR n0 nt E0 w0 E r H a w → ∃ E' r' H', BR n0 nt E0 w0 E' r' H' a w ∧ R r' H'
theorem Gh.of {R : Regs → Heap → Prop} {r : Regs} {H : Heap} (h : R r H) : Gh n0 nt R r H := fun E0 w0 E a w hb => ⟨E, r, H, hb, h⟩
theorem SW.gh {c : Code} {r : Regs} {H : Heap} {Q : AX → Regs → Heap → Prop} (h : Gh n0 nt (fun r H => SW P n0 nt c r H Q) r H) : SW P n0 nt c r H Q := fun E0 w0 E a w hb => by
  obtain ⟨E', r', H', h1, h2⟩ := h E0 w0 E a w hb
  exact h2 E0 w0 E' a w h1
theorem least {p : Nat → Prop} (h : ∃ n, p n) : ∃ n, p n ∧ ∀ m, p m → n ≤ m := by
  obtain ⟨n, hn⟩ := h
  induction n using Nat.strongRecOn with
  | _ n ih =>
    by_cases h : ∃ m, m < n ∧ p m
    · obtain ⟨m, hm, hp⟩ := h; exact ih m hm hp
    · exact ⟨n, hn, fun m hm => by
        by_cases hl : n ≤ m
        · exact hl
        · exact absurd ⟨m, by omega, hm⟩ h⟩
/-- A loop, by a number that grows less. -/
theorem ALoop.ind (hT : TOK P T) {c : Code} {r : Regs} {H : Heap} {Q : AX → Regs → Heap → Prop} (I : Nat → Regs → Heap → Prop) (n : Nat) (h0 : Gh n0 nt (I n) r H)
    (round : ∀ n r H, I n r H → AW P T ip n0 nt c r H fun e r' H' => match e with
      | .normal => Gh n0 nt (fun r'' H'' => ∃ m, m < n ∧ I m r'' H'') r' H'
      | .exit i => Q (.exit i) r' H'
      | .ret => Q .ret r' H'
      | .panic v => Q (.panic v) r' H') : ALoop P n0 nt c r H Q := by
  refine ⟨fun E0 w0 E a w hb => ?_⟩
  let J : Nat → Act → World → Prop := fun m a w => ∃ E r H, BR n0 nt E0 w0 E r H a w ∧ I m r H
  let S : Act → World → Prop := fun a w => ∃ m, J m a w
  let μ : Act → World → Nat := fun a w => by
    classical exact if h : S a w then Classical.choose (least h) else 0
  have hμ : ∀ a w, (h : S a w) → J (μ a w) a w ∧ ∀ m, J m a w → μ a w ≤ m := by
    classical
    intro a w h
    have e : μ a w = Classical.choose (least h) := by simp only [μ]; rw [dif_pos h]
    rw [e]
    exact Classical.choose_spec (least h)
  obtain ⟨E', r', H', h1, h2⟩ := h0 E0 w0 E a w hb
  refine wp_loop S μ ⟨n, E', r', H', h1, h2⟩ fun a w hS => ?_
  obtain ⟨⟨E1, r1, H1, k1, k2⟩, _⟩ := hμ a w hS
  refine wp_mono (AW_sound hT c r1 H1 _ (round _ r1 H1 k2) E0 w0 E1 a w k1) fun e a' w' ⟨x', E2, r2, H2, l1, l2, l3⟩ => ?_
  cases x' <;> cases e <;> first | exact l1.elim | skip
  · obtain ⟨E3, r3, H3, m1, m, m2, m3⟩ := l3 E0 w0 E2 a' w' l2
    have hS' : S a' w' := ⟨m, E3, r3, H3, m1, m3⟩
    exact ⟨hS', Nat.lt_of_le_of_lt ((hμ a' w' hS').2 m ⟨E3, r3, H3, m1, m3⟩) m2⟩
  · cases l1; exact ⟨.exit _, E2, r2, H2, rfl, l2, l3⟩
  · exact ⟨.ret, E2, r2, H2, trivial, l2, l3⟩
  · exact ⟨.panic _, E2, r2, H2, l1, l2, l3⟩
end
end Go.AK
namespace Go.AK
open Go Go.RowKit
set_option linter.unusedSectionVars false
variable [Globs]
set_option linter.unusedVariables false
/-- What becomes of a block's number. -/
inductive Sb where
  | bad
  | idx (k : Nat)
  | val (cs : List AV)
mutual
def sub (φ : Nat → Sb) : AV → AV
  | .p (some (j, o)) => match φ j with
    | .bad => .un
    | .idx k => .p (some (k, o))
    | .val cs => .rp cs o
  | .sl (some (j, o)) z n c => match φ j with
    | .bad => .un
    | .idx k => .sl (some (k, o)) z n c
    | .val cs => .rs cs o z n
  | .m (some j) => match φ j with
    | .idx k => .m (some k)
    | _ => .un
  | .fn f fs cap => .fn f (subs φ fs) (subs φ cap)
  | .ifc t x => .ifc t (sub φ x)
  | .agg cs => .agg (subs φ cs)
  | .tup vs => .tup (subs φ vs)
  | .rp cs o => .rp (subs φ cs) o
  | .rs cs o z n => .rs (subs φ cs) o z n
  | .un => .un
  | .b x => .b x
  | .i k n => .i k n
  | .s x => .s x
  | .p none => .p none
  | .sl none z n c => .sl none z n c
  | .nilf => .nilf
  | .nili => .nili
  | .m none => .m none
def subs (φ : Nat → Sb) : List AV → List AV
  | [] => []
  | x :: xs => sub φ x :: subs φ xs
end
mutual
/-- No part that lies in memory which is never written. -/
def nro : AV → Bool
  | .rp _ _ => false
  | .rs _ _ _ _ => false
  | .fn _ fs cap => nros fs && nros cap
  | .ifc _ x => nro x
  | .agg cs => nros cs
  | .tup vs => nros vs
  | _ => true
def nros : List AV → Bool
  | [] => true
  | x :: xs => nro x && nros xs
end
structure SubOK (E E' : Env) (φ : Nat → Sb) : Prop where
  idx : ∀ j k, φ j = .idx k → ∀ x : Nat × Nat × Nat, E.ρ[j]? = some x → E'.ρ[k]? = some x
  val : ∀ j cs, φ j = .val cs → ∀ g f q, E.ρ[j]? = some (g, f, q) → ∃ c t fz, E'.Im g = some (.cells c t fz) ∧ VRP E' cs (c.toList.drop f)
mutual
theorem VR.sub {E E' : Env} {φ : Nat → Sb} (h : SubOK E E' φ) (him : ∀ g o, E.Im g = some o → E'.Im g = some o) : ∀ (x : AV) (v : Value), VR E x v → VR E' (sub φ x) v
  | .p (some (j, o)), v, ⟨g, f, q, h1, h2⟩ => by
    unfold AK.sub
    split
    · trivial
    · rename_i k hk; exact ⟨g, f, q, h.idx j k hk _ h1, h2⟩
    · rename_i cs hk; obtain ⟨c, t, fz, k1, k2⟩ := h.val j cs hk g f q h1; exact ⟨g, f, c, t, fz, k1, h2, k2⟩
  | .sl (some (j, o)) z n c, v, ⟨g, f, q, o', h1, h2, h3, h4⟩ => by
    unfold AK.sub
    split
    · trivial
    · rename_i k hk; exact ⟨g, f, q, o', h.idx j k hk _ h1, h2, h3, h4⟩
    · rename_i cs hk
      obtain ⟨c', t, fz, k1, k2⟩ := h.val j cs hk g f q h1
      rcases h4 with ⟨rfl, _⟩ | rfl
      · exact .inr ⟨g, f, c', t, fz, c, k1, h2, h3, k2⟩
      · have : n = 0 := by omega
        subst this
        exact .inl ⟨rfl, _, _, h2⟩
  | .m (some j), v, ⟨g, f, q, h1, h2⟩ => by
    unfold AK.sub
    split
    · rename_i k hk; exact ⟨g, f, q, h.idx j k hk _ h1, h2⟩
    · trivial
  | .fn f fs cap, v, ⟨a, b, h1, h2, h3⟩ => by unfold AK.sub; exact ⟨a, b, h1, VRL.sub h him fs _ h2, VRL.sub h him cap _ h3⟩
  | .ifc t x, v, ⟨u, h1, h2⟩ => by unfold AK.sub; exact ⟨u, h1, VR.sub h him x u h2⟩
  | .agg cs, v, ⟨a, h1, h2⟩ => by unfold AK.sub; exact ⟨a, h1, VRL.sub h him cs _ h2⟩
  | .tup cs, v, ⟨a, h1, h2⟩ => by unfold AK.sub; exact ⟨a, h1, VRL.sub h him cs _ h2⟩
  | .rp cs o, v, ⟨g, f, c, t, fz, h1, h2, h3⟩ => by unfold AK.sub; exact ⟨g, f, c, t, fz, him _ _ h1, h2, VRP.sub h him cs _ h3⟩
  | .rs cs o z n, v, .inl h1 => by unfold AK.sub; exact .inl h1
  | .rs cs o z n, v, .inr ⟨g, f, c, t, fz, cap, h1, h2, h3, h4⟩ => by unfold AK.sub; exact .inr ⟨g, f, c, t, fz, cap, him _ _ h1, h2, h3, VRP.sub h him cs _ h4⟩
  | .un, _, _ => by unfold AK.sub; trivial
  | .b _, _, hv => by unfold AK.sub; exact hv
  | .i _ _, _, hv => by unfold AK.sub; exact hv
  | .s _, _, hv => by unfold AK.sub; exact hv
  | .p none, _, hv => by unfold AK.sub; exact hv
  | .sl none _ _ _, _, hv => by unfold AK.sub; exact hv
  | .nilf, _, hv => by unfold AK.sub; exact hv
  | .nili, _, hv => by unfold AK.sub; exact hv
  | .m none, _, hv => by unfold AK.sub; exact hv
theorem VRL.sub {E E' : Env} {φ : Nat → Sb} (h : SubOK E E' φ) (him : ∀ g o, E.Im g = some o → E'.Im g = some o) : ∀ (xs : List AV) (vs : List Value), VRL E xs vs → VRL E' (subs φ xs) vs
  | [], _, hv => hv
  | x :: xs, vs, ⟨v, vs', h1, h2, h3⟩ => by unfold subs; exact ⟨v, vs', h1, VR.sub h him x v h2, VRL.sub h him xs vs' h3⟩
theorem VRP.sub {E E' : Env} {φ : Nat → Sb} (h : SubOK E E' φ) (him : ∀ g o, E.Im g = some o → E'.Im g = some o) : ∀ (xs : List AV) (vs : List Value), VRP E xs vs → VRP E' (subs φ xs) vs
  | [], _, _ => trivial
  | x :: xs, vs, ⟨v, vs', h1, h2, h3⟩ => by unfold subs; exact ⟨v, vs', h1, VR.sub h him x v h2, VRP.sub h him xs vs' h3⟩
end
mutual
theorem VR.subN {E E' : Env} {φ : Nat → Sb} (h : SubOK E E' φ) : ∀ (x : AV) (v : Value), nro x = true → VR E x v → VR E' (sub φ x) v
  | .p (some (j, o)), v, _, ⟨g, f, q, h1, h2⟩ => by
    unfold AK.sub
    split
    · trivial
    · rename_i k hk; exact ⟨g, f, q, h.idx j k hk _ h1, h2⟩
    · rename_i cs hk; obtain ⟨c, t, fz, k1, k2⟩ := h.val j cs hk g f q h1; exact ⟨g, f, c, t, fz, k1, h2, k2⟩
  | .sl (some (j, o)) z n c, v, _, ⟨g, f, q, o', h1, h2, h3, h4⟩ => by
    unfold AK.sub
    split
    · trivial
    · rename_i k hk; exact ⟨g, f, q, o', h.idx j k hk _ h1, h2, h3, h4⟩
    · rename_i cs hk
      obtain ⟨c', t, fz, k1, k2⟩ := h.val j cs hk g f q h1
      rcases h4 with ⟨rfl, _⟩ | rfl
      · exact .inr ⟨g, f, c', t, fz, c, k1, h2, h3, k2⟩
      · have : n = 0 := by omega
        subst this
        exact .inl ⟨rfl, _, _, h2⟩
  | .m (some j), v, _, ⟨g, f, q, h1, h2⟩ => by
    unfold AK.sub
    split
    · rename_i k hk; exact ⟨g, f, q, h.idx j k hk _ h1, h2⟩
    · trivial
  | .fn f fs cap, v, hn, ⟨a, b, h1, h2, h3⟩ => by
    simp only [nro, Bool.and_eq_true] at hn
    unfold AK.sub; exact ⟨a, b, h1, VRL.subN h fs _ hn.1 h2, VRL.subN h cap _ hn.2 h3⟩
  | .ifc t x, v, hn, ⟨u, h1, h2⟩ => by unfold AK.sub; exact ⟨u, h1, VR.subN h x u (by simpa [nro] using hn) h2⟩
  | .agg cs, v, hn, ⟨a, h1, h2⟩ => by unfold AK.sub; exact ⟨a, h1, VRL.subN h cs _ (by simpa [nro] using hn) h2⟩
  | .tup cs, v, hn, ⟨a, h1, h2⟩ => by unfold AK.sub; exact ⟨a, h1, VRL.subN h cs _ (by simpa [nro] using hn) h2⟩
  | .rp cs o, v, hn, _ => by simp [nro] at hn
  | .rs cs o z n, v, hn, _ => by simp [nro] at hn
  | .un, _, _, _ => by unfold AK.sub; trivial
  | .b _, _, _, hv => by unfold AK.sub; exact hv
  | .i _ _, _, _, hv => by unfold AK.sub; exact hv
  | .s _, _, _, hv => by unfold AK.sub; exact hv
  | .p none, _, _, hv => by unfold AK.sub; exact hv
  | .sl none _ _ _, _, _, hv => by unfold AK.sub; exact hv
  | .nilf, _, _, hv => by unfold AK.sub; exact hv
  | .nili, _, _, hv => by unfold AK.sub; exact hv
  | .m none, _, _, hv => by unfold AK.sub; exact hv
theorem VRL.subN {E E' : Env} {φ : Nat → Sb} (h : SubOK E E' φ) : ∀ (xs : List AV) (vs : List Value), nros xs = true → VRL E xs vs → VRL E' (subs φ xs) vs
  | [], _, _, hv => hv
  | x :: xs, vs, hn, ⟨v, vs', h1, h2, h3⟩ => by
    simp only [nros, Bool.and_eq_true] at hn
    unfold subs; exact ⟨v, vs', h1, VR.subN h x v hn.1 h2, VRL.subN h xs vs' hn.2 h3⟩
end
theorem VRP.subN {E E' : Env} {φ : Nat → Sb} (h : SubOK E E' φ) : ∀ (xs : List AV) (vs : List Value), nros xs = true → VRP E xs vs → VRP E' (subs φ xs) vs
  | [], _, _, _ => trivial
  | x :: xs, vs, hn, ⟨v, vs', h1, h2, h3⟩ => by
    simp only [nros, Bool.and_eq_true] at hn
    unfold subs; exact ⟨v, vs', h1, VR.subN h x v hn.1 h2, VRP.subN h xs vs' hn.2 h3⟩
def subM (φ : Nat → Sb) : List (AV × AV) → List (AV × AV)
  | [] => []
  | (k, x) :: es => (sub φ k, sub φ x) :: subM φ es
def nroM : List (AV × AV) → Bool
  | [] => true
  | (k, x) :: es => nro k && nro x && nroM es
def subB (φ : Nat → Sb) : Blk → Blk
  | .dead => .dead
  | .c cs => .c (subs φ cs)
  | .mp es => .mp (subM φ es)
def nroB : Blk → Bool
  | .dead => true
  | .c cs => nros cs
  | .mp es => nroM es
theorem VRM.sub {E E' : Env} {φ : Nat → Sb} (h : SubOK E E' φ) (him : ∀ g o, E.Im g = some o → E'.Im g = some o) : ∀ (xs : List (AV × AV)) (vs : List MapEntry), VRM E xs vs → VRM E' (subM φ xs) vs
  | [], _, hv => hv
  | (k, x) :: xs, es, ⟨e, es', h1, h2, h3, h4⟩ => ⟨e, es', h1, h2.sub h him, h3.sub h him, VRM.sub h him xs es' h4⟩
theorem VRM.subN {E E' : Env} {φ : Nat → Sb} (h : SubOK E E' φ) : ∀ (xs : List (AV × AV)) (vs : List MapEntry), nroM xs = true → VRM E xs vs → VRM E' (subM φ xs) vs
  | [], _, _, hv => hv
  | (k, x) :: xs, es, hn, ⟨e, es', h1, h2, h3, h4⟩ => by
    simp only [nroM, Bool.and_eq_true] at hn
    exact ⟨e, es', h1, VR.subN h _ _ hn.1.1 h2, VR.subN h _ _ hn.1.2 h3, VRM.subN h xs es' hn.2 h4⟩
theorem subB_dead {φ : Nat → Sb} {b : Blk} (h : subB φ b ≠ .dead) : b ≠ .dead := fun e => by subst e; exact h rfl
theorem Ext.img {E0 E : Env} {w0 w : World} (h : Ext E0 w0 E w) (j : Nat) (x : Nat × Nat × Nat) (hx : E.ρ[j]? = some x) : w0.heap.size ≤ x.1 ∨ ∃ (j' : Nat) (x' : Nat × Nat × Nat), E0.ρ[j']? = some x' ∧ x'.1 = x.1 := by
  by_cases hj : E0.ρ.length ≤ j
  · exact h.new j x hj hx
  · have hl : j < E0.ρ.length := by omega
    have e0 : E0.ρ[j]? = some E0.ρ[j] := List.getElem?_eq_getElem hl
    have := h.le.pre j _ e0
    rw [hx] at this
    cases this
    exact .inr ⟨j, _, e0, rfl⟩
def posOf : List Nat → Nat → Nat → Option Nat
  | [], _, _ => none
  | x :: xs, k, j => if Nat.beq x j then some k else posOf xs (k + 1) j
theorem posOf_some : ∀ {xs : List Nat} {k j m : Nat}, posOf xs k j = some m → ∃ i, m = k + i ∧ xs[i]? = some j
  | [], _, _, _, h => by cases h
  | x :: xs, k, j, m, h => by
    unfold posOf at h
    split at h
    · rename_i hb; cases h; exact ⟨0, rfl, by simp [Nat.eq_of_beq_eq_true hb]⟩
    · obtain ⟨i, h1, h2⟩ := posOf_some h; exact ⟨i + 1, by omega, by simpa using h2⟩
/-- Numbers that stand once each, the first n of them where they were. -/
def selB (n : Nat) (H : Heap) (sel : List Nat) : Bool := (sel.take n == List.range n) && sel.all (fun j => decide (j < H.length)) && decide sel.Nodup
def selφ (sel : List Nat) (j : Nat) : Sb := match posOf sel 0 j with | some k => .idx k | none => .bad
def pick (φ : Nat → Sb) (H : Heap) : List Nat → Heap
  | [] => []
  | j :: js => subB φ (H.getD j .dead) :: pick φ H js
theorem pick_get {φ : Nat → Sb} {H : Heap} : ∀ {sel : List Nat} {k : Nat} {b : Blk}, (pick φ H sel)[k]? = some b → ∃ j, sel[k]? = some j ∧ b = subB φ (H.getD j .dead)
  | [], _, _, h => by simp [pick] at h
  | j :: js, 0, b, h => ⟨j, rfl, by simpa [pick] using h.symm⟩
  | j :: js, k + 1, b, h => by simpa using pick_get (sel := js) (k := k) (by simpa [pick] using h)
theorem pick_length {φ : Nat → Sb} {H : Heap} : ∀ (sel : List Nat), (pick φ H sel).length = sel.length
  | [] => rfl
  | j :: js => by simp [pick, pick_length js]
theorem getD_get {α : Type} {l : List α} {j : Nat} {d b : α} (h : l.getD j d = b) (hb : b ≠ d) : l[j]? = some b := by
  rw [List.getD_eq_getElem?_getD] at h
  cases e : l[j]? with
  | none => rw [e] at h; simp at h; exact absurd h.symm hb
  | some x => rw [e] at h; simp at h; rw [h]
theorem nodup_get : ∀ {sel : List Nat} (_ : sel.Nodup) {i k j : Nat} (_ : sel[i]? = some j) (_ : sel[k]? = some j), i = k
  | [], _, _, _, _, h, _ => by simp at h
  | x :: xs, hn, 0, 0, _, _, _ => rfl
  | x :: xs, hn, 0, k + 1, j, h1, h2 => by
    simp at h1 h2; subst h1
    exact absurd (List.mem_of_getElem? h2) (List.nodup_cons.mp hn).1
  | x :: xs, hn, i + 1, 0, j, h1, h2 => by
    simp at h1 h2; subst h2
    exact absurd (List.mem_of_getElem? h1) (List.nodup_cons.mp hn).1
  | x :: xs, hn, i + 1, k + 1, j, h1, h2 => by
    exact congrArg (· + 1) (nodup_get (List.nodup_cons.mp hn).2 (i := i) (k := k) (j := j) (by simpa using h1) (by simpa using h2))
/-- Blocks are numbered anew; what is not named is let go. -/
theorem Rel.sel {E0 E : Env} {w0 w : World} {H : Heap} {n : Nat} (hn : E0.ρ.length = n) (he : Ext E0 w0 E w) (h : Rel E H w) {sel : List Nat} (hs : selB n H sel = true) :
    ∃ E', Ext E0 w0 E' w ∧ Rel E' (pick (selφ sel) H sel) w ∧ SubOK E E' (selφ sel) ∧ E'.Im = E.Im := by
  unfold selB at hs
  simp only [Bool.and_eq_true, beq_iff_eq, List.all_eq_true, decide_eq_true_eq] at hs
  obtain ⟨⟨hp, hlt⟩, hnd⟩ := hs
  let E' : Env := ⟨sel.map fun j => E.ρ.getD j default, E.Im⟩
  have hget : ∀ (k : Nat) (x : Nat × Nat × Nat), E'.ρ[k]? = some x ↔ ∃ j : Nat, sel[k]? = some j ∧ E.ρ[j]? = some x := by
    intro k x
    simp only [E', List.getElem?_map]
    constructor
    · intro hx
      obtain ⟨j, h1, h2⟩ := Option.map_eq_some_iff.mp hx
      have hj : j < E.ρ.length := by rw [h.len]; exact hlt j (List.mem_of_getElem? h1)
      refine ⟨j, h1, ?_⟩
      rw [List.getD_eq_getElem?_getD, List.getElem?_eq_getElem hj] at h2
      simp only [Option.getD_some] at h2
      rw [List.getElem?_eq_getElem hj, h2]
    · rintro ⟨j, h1, h2⟩
      rw [h1]; simp [h2]
  have hsub : SubOK E E' (selφ sel) := by
    refine ⟨fun j k hk x hx => ?_, fun j cs hk => ?_⟩
    · unfold selφ at hk
      split at hk
      · rename_i m hm
        cases hk
        obtain ⟨i, h1, h2⟩ := posOf_some hm
        have e : k = i := by omega
        subst e
        exact (hget _ _).mpr ⟨j, h2, hx⟩
      · cases hk
    · unfold selφ at hk
      split at hk <;> cases hk
  have hal : ∀ k : Nat, alive (pick (selφ sel) H sel) k → ∃ j : Nat, sel[k]? = some j ∧ alive H j := by
    rintro k ⟨b, hb, hd⟩
    obtain ⟨j, h1, h2⟩ := pick_get hb
    have hd' := subB_dead (h2 ▸ hd)
    exact ⟨j, h1, _, getD_get rfl hd', hd'⟩
  refine ⟨E', ⟨⟨?_, he.le.im⟩, ?_, he.imn, he.os, he.tape, he.output, he.size, he.keep⟩, ⟨by simp [E', pick_length], ?_, ?_, ?_, ?_, h.im, ?_, h.gl⟩, hsub, rfl⟩
  · intro j x hx
    have hj : j < n := by rw [← hn]; exact (List.getElem?_eq_some_iff.mp hx).1
    have h1 : sel[j]? = some j := by
      have : (sel.take n)[j]? = some j := by rw [hp]; simp [hj]
      rw [List.getElem?_take, if_pos hj] at this
      exact this
    exact (hget j x).mpr ⟨j, h1, he.le.pre j x hx⟩
  · intro k x _ hx
    obtain ⟨j, _, h2⟩ := (hget k x).mp hx
    exact he.img j x h2
  · intro k cs hk
    obtain ⟨j, h1, h2⟩ := pick_get hk
    have hd : H.getD j .dead ≠ .dead := fun e => by rw [e] at h2; cases h2
    have hj := getD_get rfl hd
    generalize H.getD j .dead = b at h2 hj
    cases b with
    | dead => cases h2
    | mp _ => cases h2
    | c ds =>
      cases h2
      obtain ⟨g, f, c, t, e1, e2, e3⟩ := h.blk j ds hj
      exact ⟨g, f, c, t, (hget _ _).mpr ⟨j, h1, e1⟩, e2, VRP.sub hsub (fun _ _ h => h) _ _ e3⟩
  · intro k es hk
    obtain ⟨j, h1, h2⟩ := pick_get hk
    have hd : H.getD j .dead ≠ .dead := fun e => by rw [e] at h2; cases h2
    have hj := getD_get rfl hd
    generalize H.getD j .dead = b at h2 hj
    cases b with
    | dead => cases h2
    | c _ => cases h2
    | mp ds =>
      cases h2
      obtain ⟨g, f, q, es', kk, e1, e2, e3⟩ := h.mp j ds hj
      exact ⟨g, f, q, es', kk, (hget _ _).mpr ⟨j, h1, e1⟩, e2, VRM.sub hsub (fun _ _ h => h) _ _ e3⟩
  · intro a b x x' ha hb hx hx' e
    obtain ⟨ja, a1, a2⟩ := hal a ha
    obtain ⟨jb, b1, b2⟩ := hal b hb
    obtain ⟨ja', a3, a4⟩ := (hget _ _).mp hx
    obtain ⟨jb', b3, b4⟩ := (hget _ _).mp hx'
    rw [a1] at a3; cases a3
    rw [b1] at b3; cases b3
    have := h.inj ja jb x x' a2 b2 a4 b4 e
    subst this
    exact nodup_get hnd a1 b1
  · intro k x hx
    obtain ⟨j, _, h2⟩ := (hget k x).mp hx
    exact h.lt j x h2
  · intro k x ha hx
    obtain ⟨j, a1, a2⟩ := hal k ha
    obtain ⟨j', a3, a4⟩ := (hget _ _).mp hx
    rw [a1] at a3; cases a3
    exact h.imd j x a2 a4
end Go.AK
namespace Go.AK
open Go Go.RowKit
set_option linter.unusedSectionVars false
variable [Globs]
set_option linter.unusedVariables false
def frzφ (j : Nat) (cs : List AV) (i : Nat) : Sb := if Nat.beq i j then .val cs else .idx i
def frzH (j : Nat) (cs : List AV) (H : Heap) : Heap := (H.set j .dead).map (subB (frzφ j cs))
/-- A block is never written from here on: what reads it is a value. -/
theorem Rel.freeze {E0 E : Env} {w0 w : World} {H : Heap} (he : Ext E0 w0 E w) (h : Rel E H w) {j : Nat} {cs : List AV} (hj : H[j]? = some (.c cs)) :
    ∃ E', Ext E0 w0 E' w ∧ Rel E' (frzH j cs H) w ∧ SubOK E E' (frzφ j cs) ∧ E.le E' := by
  obtain ⟨g, f, c, t, e1, e2, e3⟩ := h.blk j cs hj
  have haj : alive H j := ⟨_, hj, by simp⟩
  have hjl : j < H.length := (List.getElem?_eq_some_iff.mp hj).1
  let E' : Env := ⟨E.ρ, fun g' => if g' = g then some (.cells c t (0, 0)) else E.Im g'⟩
  have hle : E.le E' := by
    refine ⟨fun _ _ h => h, fun g' o ho => ?_⟩
    show (if g' = g then _ else E.Im g') = some o
    by_cases e : g' = g
    · subst e; have := h.im _ _ ho; rw [e2] at this; rw [if_pos rfl]; exact this
    · rw [if_neg e]; exact ho
  have hsub : SubOK E E' (frzφ j cs) := by
    refine ⟨fun i k hk x hx => ?_, fun i ds hk g' f' q hx => ?_⟩
    · unfold frzφ at hk
      split at hk
      · cases hk
      · cases hk; exact hx
    · unfold frzφ at hk
      split at hk
      · rename_i hb
        cases hk
        have := Nat.eq_of_beq_eq_true hb
        subst this
        rw [e1] at hx
        simp only [Option.some.injEq, Prod.mk.injEq] at hx
        obtain ⟨rfl, rfl, rfl⟩ := hx
        exact ⟨c, t, (0, 0), by simp [E'], e3.mono hle⟩
      · cases hk
  have hal : ∀ k, alive (frzH j cs H) k → alive H k ∧ k ≠ j := by
    rintro k ⟨b, hb, hd⟩
    unfold frzH at hb
    rw [List.getElem?_map] at hb
    obtain ⟨b', h1, rfl⟩ := Option.map_eq_some_iff.mp hb
    have hd' := subB_dead hd
    by_cases e : j = k
    · subst e; rw [List.getElem?_set_self hjl] at h1; cases h1; exact absurd rfl hd'
    · rw [List.getElem?_set_ne e] at h1; exact ⟨⟨b', h1, hd'⟩, fun e' => e e'.symm⟩
  refine ⟨E', ⟨he.le.trans hle, he.new, ?_, he.os, he.tape, he.output, he.size, he.keep⟩, ⟨by simp [E', frzH, h.len], ?_, ?_, fun a b x x' ha hb => h.inj a b x x' (hal a ha).1 (hal b hb).1, h.lt, ?_, ?_, Globs.mono _ _ hle.im h.gl⟩, hsub, hle⟩
  · intro g' o ho
    have ho' : (if g' = g then some (Obj.cells c t (0, 0)) else E.Im g') = some o := ho
    by_cases e : g' = g
    · subst e
      rcases he.img j _ e1 with h1 | h1
      · exact .inr (.inl h1)
      · exact .inr (.inr h1)
    · rw [if_neg e] at ho'; exact he.imn g' o ho'
  · intro k ds hk
    have hne := (hal k ⟨_, hk, by simp⟩).2
    unfold frzH at hk
    rw [List.getElem?_map, List.getElem?_set_ne (fun e => hne e.symm)] at hk
    obtain ⟨b, h1, h2⟩ := Option.map_eq_some_iff.mp hk
    cases b with
    | dead => cases h2
    | mp _ => cases h2
    | c ds' =>
      cases h2
      obtain ⟨g', f', c', t', k1, k2, k3⟩ := h.blk k ds' h1
      exact ⟨g', f', c', t', k1, k2, VRP.sub hsub hle.im _ _ k3⟩
  · intro k ds hk
    have hne := (hal k ⟨_, hk, by simp⟩).2
    unfold frzH at hk
    rw [List.getElem?_map, List.getElem?_set_ne (fun e => hne e.symm)] at hk
    obtain ⟨b, h1, h2⟩ := Option.map_eq_some_iff.mp hk
    cases b with
    | dead => cases h2
    | c _ => cases h2
    | mp ds' =>
      cases h2
      obtain ⟨g', f', q, es', kk, k1, k2, k3⟩ := h.mp k ds' h1
      exact ⟨g', f', q, es', kk, k1, k2, VRM.sub hsub hle.im _ _ k3⟩
  · intro g' o ho
    have ho' : (if g' = g then some (Obj.cells c t (0, 0)) else E.Im g') = some o := ho
    by_cases e : g' = g
    · subst e; rw [if_pos rfl] at ho'; rw [← ho']; exact e2
    · rw [if_neg e] at ho'; exact h.im g' o ho'
  · intro k x ha hx
    obtain ⟨a1, a2⟩ := hal k ha
    have hne : x.1 ≠ g := fun e => a2 (h.inj k j x _ a1 haj hx e1 e)
    show (if x.1 = g then _ else E.Im x.1) = none
    rw [if_neg hne]; exact h.imd k x a1 hx
mutual
/-- No part that is a place of a numbered block. -/
def flat : AV → Bool
  | .p (some _) => false
  | .sl (some _) _ _ _ => false
  | .m (some _) => false
  | .fn _ fs cap => flats fs && flats cap
  | .ifc _ x => flat x
  | .agg cs => flats cs
  | .tup vs => flats vs
  | .rp cs _ => flats cs
  | .rs cs _ _ _ => flats cs
  | _ => true
def flats : List AV → Bool
  | [] => true
  | x :: xs => flat x && flats xs
end
mutual
theorem VR.flat {E E' : Env} (him : ∀ g o, E.Im g = some o → E'.Im g = some o) : ∀ (x : AV) (v : Value), flat x = true → VR E x v → VR E' x v
  | .p (some (j, o)), v, hn, _ => by simp [AK.flat] at hn
  | .sl (some (j, o)) z n c, v, hn, _ => by simp [AK.flat] at hn
  | .m (some j), v, hn, _ => by simp [AK.flat] at hn
  | .fn f fs cap, v, hn, ⟨a, b, h1, h2, h3⟩ => by
    simp only [AK.flat, Bool.and_eq_true] at hn
    exact ⟨a, b, h1, VRL.flat him fs _ hn.1 h2, VRL.flat him cap _ hn.2 h3⟩
  | .ifc t x, v, hn, ⟨u, h1, h2⟩ => ⟨u, h1, VR.flat him x u (by simpa [AK.flat] using hn) h2⟩
  | .agg cs, v, hn, ⟨a, h1, h2⟩ => ⟨a, h1, VRL.flat him cs _ (by simpa [AK.flat] using hn) h2⟩
  | .tup cs, v, hn, ⟨a, h1, h2⟩ => ⟨a, h1, VRL.flat him cs _ (by simpa [AK.flat] using hn) h2⟩
  | .rp cs o, v, hn, ⟨g, f, c, t, fz, h1, h2, h3⟩ => ⟨g, f, c, t, fz, him _ _ h1, h2, VRP.flat him cs _ (by simpa [AK.flat] using hn) h3⟩
  | .rs cs o z n, v, hn, .inl h1 => .inl h1
  | .rs cs o z n, v, hn, .inr ⟨g, f, c, t, fz, cap, h1, h2, h3, h4⟩ => .inr ⟨g, f, c, t, fz, cap, him _ _ h1, h2, h3, VRP.flat him cs _ (by simpa [AK.flat] using hn) h4⟩
  | .un, _, _, _ => trivial
  | .b _, _, _, hv => hv
  | .i _ _, _, _, hv => hv
  | .s _, _, _, hv => hv
  | .p none, _, _, hv => hv
  | .sl none _ _ _, _, _, hv => hv
  | .nilf, _, _, hv => hv
  | .nili, _, _, hv => hv
  | .m none, _, _, hv => hv
theorem VRL.flat {E E' : Env} (him : ∀ g o, E.Im g = some o → E'.Im g = some o) : ∀ (xs : List AV) (vs : List Value), flats xs = true → VRL E xs vs → VRL E' xs vs
  | [], _, _, hv => hv
  | x :: xs, vs, hn, ⟨v, vs', h1, h2, h3⟩ => by
    simp only [flats, Bool.and_eq_true] at hn
    exact ⟨v, vs', h1, VR.flat him x v hn.1 h2, VRL.flat him xs vs' hn.2 h3⟩
theorem VRP.flat {E E' : Env} (him : ∀ g o, E.Im g = some o → E'.Im g = some o) : ∀ (xs : List AV) (vs : List Value), flats xs = true → VRP E xs vs → VRP E' xs vs
  | [], _, _, _ => trivial
  | x :: xs, vs, hn, ⟨v, vs', h1, h2, h3⟩ => by
    simp only [flats, Bool.and_eq_true] at hn
    exact ⟨v, vs', h1, VR.flat him x v hn.1 h2, VRP.flat him xs vs' hn.2 h3⟩
end
/-! A call within a greater heap: of its blocks those of 'sel' are the call's; those of 'lend' it reads alone. -/
def lendφ (H : Heap) : List Nat → Nat → Sb
  | [], _ => .bad
  | j :: js, i => if Nat.beq i j then (match H[j]? with
    | some (.c cs) => .val (subs (lendφ H js) cs)
    | _ => .bad) else lendφ H js i
def callφ (H : Heap) (sel lend : List Nat) (j : Nat) : Sb :=
  match posOf sel 0 j with
  | some k => .idx k
  | none => lendφ H lend j
def backφ (m : Nat) (sel : List Nat) (k : Nat) : Sb :=
  match sel[k]? with
  | some j => .idx j
  | none => .idx (m + (k - sel.length))
def backH (m : Nat) (sel : List Nat) (Hc : Heap) : List Nat → Heap → Heap
  | [], H => H ++ (Hc.drop sel.length).map (subB (backφ m sel))
  | j :: js, H => backH m sel Hc js (H.set j (subB (backφ m sel) (Hc.getD (match posOf sel 0 j with | some k => k | none => 0) .dead)))
def aliveB (H : Heap) (j : Nat) : Bool := match H[j]? with | some (.c _) => true | some (.mp _) => true | _ => false
def cellsB (H : Heap) (j : Nat) : Bool := match H[j]? with | some (.c _) => true | _ => false
/-- The conditions: numbers that stand once each, of blocks that are there. -/
def frameB (H : Heap) (sel lend : List Nat) : Bool := sel.all (aliveB H) && decide sel.Nodup && lend.all (fun j => cellsB H j && !sel.contains j)
def subR (φ : Nat → Sb) : ARes → ARes
  | .ret x => .ret (sub φ x)
  | .pan x => .pan (sub φ x)
def nroR : ARes → Bool
  | .ret x => nro x
  | .pan x => nro x
def nroH : Heap → Bool
  | [] => true
  | b :: H => nroB b && nroH H
theorem aliveB_alive {H : Heap} {j : Nat} (h : aliveB H j = true) : alive H j := by
  unfold aliveB at h
  split at h <;> first | exact ⟨_, by assumption, by simp⟩ | cases h
theorem nroH_get : ∀ {H : Heap} {j : Nat} {b : Blk}, nroH H = true → H[j]? = some b → nroB b = true
  | [], _, _, _, h => by simp at h
  | b :: H, 0, c, h, h1 => by simp [nroH] at h h1; subst h1; exact h.1
  | b :: H, j + 1, c, h, h1 => by simp [nroH] at h; exact nroH_get h.2 (by simpa using h1)
theorem posOf_mem : ∀ {xs : List Nat} {k j : Nat}, posOf xs k j = none → j ∉ xs
  | [], _, _, _, h => by cases h
  | x :: xs, k, j, h, hm => by
    unfold posOf at h
    split at h
    · cases h
    · rename_i hb
      rcases List.mem_cons.mp hm with rfl | hm
      · simp at hb
      · exact posOf_mem h hm
theorem backH_get {m : Nat} {sel : List Nat} {Hc : Heap} (hnd : sel.Nodup) : ∀ (js : List Nat) (H : Heap), H.length = m → (∀ j ∈ js, j ∈ sel ∧ j < m) →
    (backH m sel Hc js H).length = m + (Hc.length - sel.length) ∧
    (∀ (k : Nat) (b : Blk), (backH m sel Hc js H)[k]? = some b → (m ≤ k ∧ ∃ b', Hc[sel.length + (k - m)]? = some b' ∧ b = subB (backφ m sel) b') ∨ (k < m ∧ k ∉ js ∧ H[k]? = some b) ∨ (k < m ∧ k ∈ js ∧ ∃ i : Nat, sel[i]? = some k ∧ b = subB (backφ m sel) (Hc.getD i .dead)))
  | [], H, hl, _ => by
    refine ⟨by simp [backH, hl], fun k b hb => ?_⟩
    unfold backH at hb
    by_cases hk : k < m
    · rw [List.getElem?_append_left (by omega)] at hb
      exact .inr (.inl ⟨hk, by simp, hb⟩)
    · rw [List.getElem?_append_right (by omega), List.getElem?_map, List.getElem?_drop, hl] at hb
      obtain ⟨b', h1, h2⟩ := Option.map_eq_some_iff.mp hb
      exact .inl ⟨by omega, b', h1, h2.symm⟩
  | j :: js, H, hl, hm => by
    unfold backH
    obtain ⟨h1, h2⟩ := backH_get (m := m) (Hc := Hc) hnd js (H.set j (subB (backφ m sel) (Hc.getD (match posOf sel 0 j with | some k => k | none => 0) .dead))) (by simpa using hl) (fun i hi => hm i (by simp [hi]))
    refine ⟨h1, fun k b hb => ?_⟩
    obtain ⟨hj1, hj2⟩ := hm j (by simp)
    rcases h2 k b hb with h3 | ⟨h3, h4, h5⟩ | ⟨h3, h4, h5⟩
    · exact .inl h3
    · by_cases e : j = k
      · subst e
        rw [List.getElem?_set_self (by omega)] at h5
        cases hp : posOf sel 0 j with
        | none => exact absurd hj1 (posOf_mem hp)
        | some i =>
          rw [hp] at h5
          obtain ⟨i', e1, e2⟩ := posOf_some hp
          have : i = i' := by omega
          subst this
          exact .inr (.inr ⟨h3, by simp, i, e2, (Option.some.inj h5).symm⟩)
      · rw [List.getElem?_set_ne e] at h5
        exact .inr (.inl ⟨h3, by simp; exact ⟨fun e' => e e'.symm, h4⟩, h5⟩)
    · exact .inr (.inr ⟨h3, by simp [h4], h5⟩)
variable {P : Program}
/-- **A call, within a greater heap.** -/
theorem ACall.frame {f : Nat} {args : List AV} {H : Heap} {Kc K : ARes → Heap → Prop} (sel lend : List Nat) (hs : frameB H sel lend = true) {args' : List AV} {Hc : Heap} (ha : subs (callφ H sel lend) args = args') (hH : pick (callφ H sel lend) H sel = Hc) (h : ACall P f args' Hc Kc)
    (hk : ∀ r H2, Kc r H2 → (lend = [] ∨ (nroR r = true ∧ nroH H2 = true)) ∧ K (subR (backφ H.length sel) r) (backH H.length sel H2 sel H)) : ACall P f args H K := by
  subst ha
  subst hH
  refine ⟨h.1, fun E w vs hR hv => ?_⟩
  unfold frameB at hs
  simp only [Bool.and_eq_true, List.all_eq_true, decide_eq_true_eq] at hs
  obtain ⟨⟨hal, hnd⟩, hle⟩ := hs
  have hselA : ∀ j ∈ sel, alive H j := fun j hj => aliveB_alive (hal j hj)
  have hselL : ∀ j ∈ sel, j < H.length := fun j hj => (hselA j hj).lt
  have hlend : ∀ j ∈ lend, (∃ cs, H[j]? = some (.c cs)) ∧ j ∉ sel := fun j hj => by
    have := hle j hj
    constructor
    · have h1 := this.1
      unfold cellsB at h1
      split at h1
      · exact ⟨_, by assumption⟩
      · cases h1
    · intro hm
      have h2 := this.2
      simp [hm] at h2
  -- the callee's places
  let isL : Nat → Prop := fun g => ∃ j ∈ lend, ∃ x, E.ρ[j]? = some x ∧ x.1 = g
  let Ec : Env := ⟨sel.map fun j => E.ρ.getD j default, fun g => by classical exact if isL g then w.heap[g]? else E.Im g⟩
  have hEcIm : ∀ g, (isL g → Ec.Im g = w.heap[g]?) ∧ (¬ isL g → Ec.Im g = E.Im g) := fun g => ⟨fun hg => if_pos hg, fun hg => if_neg hg⟩
  have himle : ∀ g o, E.Im g = some o → Ec.Im g = some o := fun g o ho => by
    by_cases hg : isL g
    · rw [(hEcIm g).1 hg]; exact hR.im g o ho
    · rw [(hEcIm g).2 hg]; exact ho
  have hget : ∀ (k : Nat) (x : Nat × Nat × Nat), Ec.ρ[k]? = some x ↔ ∃ j : Nat, sel[k]? = some j ∧ E.ρ[j]? = some x := by
    intro k x
    simp only [Ec, List.getElem?_map]
    constructor
    · intro hx
      obtain ⟨j, h1, h2⟩ := Option.map_eq_some_iff.mp hx
      have hj : j < E.ρ.length := by rw [hR.len]; exact hselL j (List.mem_of_getElem? h1)
      refine ⟨j, h1, ?_⟩
      rw [List.getD_eq_getElem?_getD, List.getElem?_eq_getElem hj] at h2
      simp only [Option.getD_some] at h2
      rw [List.getElem?_eq_getElem hj, h2]
    · rintro ⟨j, h1, h2⟩
      rw [h1]; simp [h2]
  have hlnd : ∀ js : List Nat, (∀ i ∈ js, i ∈ lend ∧ ∃ cs, H[i]? = some (.c cs)) → SubOK E Ec (lendφ H js) := by
    intro js
    induction js with
    | nil => exact fun _ => ⟨fun j k hk => by simp [lendφ] at hk, fun j cs hk => by simp [lendφ] at hk⟩
    | cons i js ihj =>
      intro hjs
      have ihs := ihj fun i' hi' => hjs i' (by simp [hi'])
      refine ⟨fun j k hk x hx => ?_, fun j cs hk g f q hx => ?_⟩
      · unfold lendφ at hk
        split at hk
        · split at hk <;> cases hk
        · exact ihs.idx j k hk x hx
      · unfold lendφ at hk
        split at hk
        · rename_i hb
          have hji := Nat.eq_of_beq_eq_true hb
          subst hji
          obtain ⟨hil, ds, hds⟩ := hjs j (by simp)
          rw [hds] at hk
          cases hk
          obtain ⟨g', f', c, t, e1, e2, e3⟩ := hR.blk j ds hds
          rw [hx] at e1
          simp only [Option.some.injEq, Prod.mk.injEq] at e1
          obtain ⟨rfl, rfl, rfl⟩ := e1
          have hg : isL g := ⟨j, hil, _, hx, rfl⟩
          exact ⟨c, t, (0, 0), by rw [(hEcIm g).1 hg]; exact e2, VRP.sub ihs himle _ _ e3⟩
        · exact ihs.val j cs hk g f q hx
  have hsub : SubOK E Ec (callφ H sel lend) := by
    refine ⟨fun j k hk x hx => ?_, fun j cs hk g f q hx => ?_⟩
    · unfold callφ at hk
      split at hk
      · rename_i m hm
        cases hk
        obtain ⟨i, h1, h2⟩ := posOf_some hm
        have e : k = i := by omega
        subst e
        exact (hget _ _).mpr ⟨j, h2, hx⟩
      · exact (hlnd lend fun i hi => ⟨hi, (hlend i hi).1⟩).idx j k hk x hx
    · unfold callφ at hk
      split at hk
      · cases hk
      · exact (hlnd lend fun i hi => ⟨hi, (hlend i hi).1⟩).val j cs hk g f q hx
  have hpick : ∀ (k : Nat) (b : Blk), (pick (callφ H sel lend) H sel)[k]? = some b → ∃ j : Nat, sel[k]? = some j ∧ b = subB (callφ H sel lend) (H.getD j .dead) := fun k b hb => pick_get hb
  have hRc : Rel Ec (pick (callφ H sel lend) H sel) w := by
    refine ⟨by simp [Ec, pick_length], ?_, ?_, ?_, ?_, ?_, ?_, Globs.mono _ _ himle hR.gl⟩
    · intro k cs hk
      obtain ⟨j, h1, h2⟩ := hpick k _ hk
      have hd : H.getD j .dead ≠ .dead := fun e => by rw [e] at h2; cases h2
      have hj := getD_get rfl hd
      generalize H.getD j .dead = b at h2 hj
      cases b with
      | dead => cases h2
      | mp _ => cases h2
      | c ds =>
        cases h2
        obtain ⟨g, f, c, t, e1, e2, e3⟩ := hR.blk j ds hj
        exact ⟨g, f, c, t, (hget _ _).mpr ⟨j, h1, e1⟩, e2, VRP.sub hsub himle _ _ e3⟩
    · intro k es hk
      obtain ⟨j, h1, h2⟩ := hpick k _ hk
      have hd : H.getD j .dead ≠ .dead := fun e => by rw [e] at h2; cases h2
      have hj := getD_get rfl hd
      generalize H.getD j .dead = b at h2 hj
      cases b with
      | dead => cases h2
      | c _ => cases h2
      | mp ds =>
        cases h2
        obtain ⟨g, f, q, es', kk, e1, e2, e3⟩ := hR.mp j ds hj
        exact ⟨g, f, q, es', kk, (hget _ _).mpr ⟨j, h1, e1⟩, e2, VRM.sub hsub himle _ _ e3⟩
    · intro a b x x' _ _ hx hx' e
      obtain ⟨ja, a3, a4⟩ := (hget _ _).mp hx
      obtain ⟨jb, b3, b4⟩ := (hget _ _).mp hx'
      have := hR.inj ja jb x x' (hselA ja (List.mem_of_getElem? a3)) (hselA jb (List.mem_of_getElem? b3)) a4 b4 e
      subst this
      exact nodup_get hnd a3 b3
    · intro k x hx
      obtain ⟨j, _, h2⟩ := (hget k x).mp hx
      exact hR.lt j x h2
    · intro g o ho
      by_cases hg : isL g
      · rw [(hEcIm g).1 hg] at ho; exact ho
      · rw [(hEcIm g).2 hg] at ho; exact hR.im g o ho
    · intro k x _ hx
      obtain ⟨j, a3, a4⟩ := (hget _ _).mp hx
      have hjs := List.mem_of_getElem? a3
      have hnl : ¬ isL x.1 := by
        rintro ⟨i, hi, y, hy, e⟩
        obtain ⟨⟨cs, hcs⟩, hns⟩ := hlend i hi
        have := hR.inj i j y x ⟨_, hcs, by simp⟩ (hselA j hjs) hy a4 e
        subst this; exact hns hjs
      rw [(hEcIm _).2 hnl]
      exact hR.imd j x (hselA j hjs) a4
  have hvc := VRL.sub hsub himle _ _ hv
  refine (h.2 Ec w vs hRc hvc).mono fun e w' ⟨r, E2, H2, k1, k2, k3, k4⟩ => ?_
  obtain ⟨hnr, hK⟩ := hk r H2 k3
  -- the caller's places, behind it
  have hEcl : Ec.ρ.length = sel.length := by simp [Ec]
  have hE2l : sel.length ≤ E2.ρ.length := by
    by_cases h0 : sel.length = 0
    · omega
    · have h1 : Ec.ρ[sel.length - 1]? = some Ec.ρ[sel.length - 1] := List.getElem?_eq_getElem (by omega)
      have h2 := k1.le.pre _ _ h1
      have := (List.getElem?_eq_some_iff.mp h2).1
      omega
  let E' : Env := ⟨E.ρ ++ E2.ρ.drop sel.length, fun g => by classical exact if isL g then none else E2.Im g⟩
  have hE'Im : ∀ g, (isL g → E'.Im g = none) ∧ (¬ isL g → E'.Im g = E2.Im g) := fun g => ⟨fun hg => if_pos hg, fun hg => if_neg hg⟩
  have hold : ∀ (j : Nat) (x : Nat × Nat × Nat), E.ρ[j]? = some x → E'.ρ[j]? = some x := fun j x hx => by
    have := (List.getElem?_eq_some_iff.mp hx).1
    show (E.ρ ++ _)[j]? = _
    rw [List.getElem?_append_left this]; exact hx
  have hnew : ∀ (k : Nat) (x : Nat × Nat × Nat), sel.length ≤ k → E2.ρ[k]? = some x → E'.ρ[H.length + (k - sel.length)]? = some x := fun k x hk hx => by
    show (E.ρ ++ _)[_]? = _
    rw [List.getElem?_append_right (by rw [hR.len]; omega), List.getElem?_drop, hR.len]
    rw [show sel.length + (H.length + (k - sel.length) - H.length) = k from by omega]
    exact hx
  have hE' : ∀ (j : Nat) (x : Nat × Nat × Nat), E'.ρ[j]? = some x → (j < H.length ∧ E.ρ[j]? = some x) ∨ (H.length ≤ j ∧ E2.ρ[sel.length + (j - H.length)]? = some x) := by
    intro j x hx
    have hx' : (E.ρ ++ E2.ρ.drop sel.length)[j]? = some x := hx
    by_cases hj : j < E.ρ.length
    · rw [List.getElem?_append_left hj] at hx'; exact .inl ⟨by rw [← hR.len]; exact hj, hx'⟩
    · rw [List.getElem?_append_right (by omega), List.getElem?_drop, hR.len] at hx'
      exact .inr ⟨by rw [← hR.len]; omega, hx'⟩
  have hE2sel : ∀ (k : Nat) (x : Nat × Nat × Nat), k < sel.length → E2.ρ[k]? = some x → ∃ j : Nat, sel[k]? = some j ∧ E.ρ[j]? = some x := by
    intro k x hk hx
    have h1 : Ec.ρ[k]? = some Ec.ρ[k] := List.getElem?_eq_getElem (by omega)
    have h2 := k1.le.pre _ _ h1
    rw [hx] at h2
    cases h2
    exact (hget _ _).mp h1
  have hback : SubOK E2 E' (backφ H.length sel) := by
    refine ⟨fun k i hi x hx => ?_, fun k cs hi => ?_⟩
    · unfold backφ at hi
      split at hi
      · rename_i j hj
        cases hi
        have hk := (List.getElem?_eq_some_iff.mp hj).1
        obtain ⟨j', h1, h2⟩ := hE2sel k x hk hx
        rw [hj] at h1; cases h1
        exact hold _ _ h2
      · rename_i hj
        cases hi
        have hk : sel.length ≤ k := by
          rcases Nat.lt_or_ge k sel.length with h | h
          · rw [List.getElem?_eq_getElem h] at hj; cases hj
          · exact h
        exact hnew k x hk hx
    · unfold backφ at hi
      split at hi <;> cases hi
  have himg : ∀ (k : Nat) (x : Nat × Nat × Nat), E2.ρ[k]? = some x → w.heap.size ≤ x.1 ∨ ∃ (j : Nat) (y : Nat × Nat × Nat), j ∈ sel ∧ E.ρ[j]? = some y ∧ y.1 = x.1 := by
    intro k x hx
    rcases k1.img k x hx with h1 | ⟨j', x', h1, h2⟩
    · exact .inl h1
    · obtain ⟨j, h3, h4⟩ := (hget _ _).mp h1
      exact .inr ⟨j, x', List.mem_of_getElem? h3, h4, h2⟩
  have himE : ∀ g o, E2.Im g = some o → ¬ isL g → E.Im g = some o ∨ w.heap.size ≤ g ∨ ∃ (j : Nat) (y : Nat × Nat × Nat), j ∈ sel ∧ E.ρ[j]? = some y ∧ y.1 = g := by
    intro g o hg hl
    rcases k1.imn g o hg with h1 | h1 | ⟨j', x', h1, h2⟩
    · rw [(hEcIm g).2 hl] at h1; exact .inl h1
    · exact .inr (.inl h1)
    · obtain ⟨j, h3, h4⟩ := (hget _ _).mp h1
      exact .inr (.inr ⟨j, x', List.mem_of_getElem? h3, h4, h2⟩)
  have hnL : lend = [] → ∀ g, ¬ isL g := fun hl g ⟨j, hj, _⟩ => by rw [hl] at hj; cases hj
  have himB : lend = [] → ∀ g o, E2.Im g = some o → E'.Im g = some o := fun hl g o ho => by rw [(hE'Im g).2 (hnL hl g)]; exact ho
  have hcs : ∀ (k : Nat) cs vs, H2[k]? = some (.c cs) → VRP E2 cs vs → VRP E' (subs (backφ H.length sel) cs) vs := by
    intro k cs vs hk hv
    rcases hnr with hl | ⟨_, hn⟩
    · exact VRP.sub hback (himB hl) _ _ hv
    · exact VRP.subN hback _ _ (nroH_get hn hk) hv
  have hms : ∀ (k : Nat) cs vs, H2[k]? = some (.mp cs) → VRM E2 cs vs → VRM E' (subM (backφ H.length sel) cs) vs := by
    intro k cs vs hk hv
    rcases hnr with hl | ⟨_, hn⟩
    · exact VRM.sub hback (himB hl) _ _ hv
    · exact VRM.subN hback _ _ (nroH_get hn hk) hv
  obtain ⟨hBl, hBg⟩ := backH_get (m := H.length) (Hc := H2) hnd sel H rfl (fun j hj => ⟨hj, hselL j hj⟩)
  have hH2l : sel.length ≤ H2.length := by rw [← k2.len]; exact hE2l
  -- what stands at a number
  have hB : ∀ (k : Nat) (b : Blk), (backH H.length sel H2 sel H)[k]? = some b → b ≠ .dead →
      (k < H.length ∧ k ∉ sel ∧ H[k]? = some b) ∨ ∃ (i : Nat) (b' : Blk), H2[i]? = some b' ∧ b' ≠ .dead ∧ b = subB (backφ H.length sel) b' ∧ (∀ x, E2.ρ[i]? = some x → E'.ρ[k]? = some x) ∧ ((H.length ≤ k ∧ i = sel.length + (k - H.length)) ∨ (k < H.length ∧ sel[i]? = some k)) := by
    intro k b hb hd
    rcases hBg k b hb with ⟨h1, b', h2, h3⟩ | h1 | ⟨h1, _, i, h3, h4⟩
    · refine .inr ⟨_, b', h2, subB_dead (h3 ▸ hd), h3, fun x hx => ?_, .inl ⟨h1, rfl⟩⟩
      have := hnew _ x (by omega) hx
      rwa [show H.length + (sel.length + (k - H.length) - sel.length) = k from by omega] at this
    · exact .inl h1
    · have hd' := subB_dead (h4 ▸ hd)
      refine .inr ⟨i, _, getD_get rfl hd', hd', h4, fun x hx => ?_, .inr ⟨h1, h3⟩⟩
      obtain ⟨j, h5, h6⟩ := hE2sel i x (List.getElem?_eq_some_iff.mp h3).1 hx
      rw [h3] at h5; cases h5
      exact hold _ _ h6
  have hfarO : ∀ (k : Nat) (x : Nat × Nat × Nat), alive H k → k ∉ sel → E.ρ[k]? = some x → w'.heap[x.1]? = w.heap[x.1]? := by
    intro k x ha hns hx
    by_cases hl : isL x.1
    · have h1 : ∃ o, w.heap[x.1]? = some o := ⟨_, Array.getElem?_eq_getElem (hR.lt _ _ hx)⟩
      obtain ⟨o, ho⟩ := h1
      have h2 : Ec.Im x.1 = some o := by rw [(hEcIm _).1 hl]; exact ho
      rw [k2.im _ _ (k1.le.im _ _ h2), ho]
    · refine k1.keep _ (hR.lt _ _ hx) fun i y hy e => ?_
      obtain ⟨j, h3, h4⟩ := (hget _ _).mp hy
      have hjs := List.mem_of_getElem? h3
      have := hR.inj j k y x (hselA j hjs) ha h4 hx e
      subst this; exact hns hjs
  have himE' : ∀ g o, E.Im g = some o → E'.Im g = some o := by
    intro g o ho
    · have hl : ¬ isL g := by
        rintro ⟨j, hj, x, hx, rfl⟩
        obtain ⟨⟨cs, hc⟩, _⟩ := hlend j hj
        have := hR.imd j x ⟨_, hc, by simp⟩ hx
        rw [this] at ho; cases ho
      rw [(hE'Im g).2 hl]
      exact k1.le.im _ _ (himle _ _ ho)
  refine ⟨subR (backφ H.length sel) r, E', backH H.length sel H2 sel H, ?_, ?_, hK, ?_⟩
  · refine ⟨⟨hold, himE'⟩, ?_, ?_, k1.os, k1.tape, k1.output, k1.size, ?_⟩
    · intro j x hj hx
      rcases hE' j x hx with ⟨h1, _⟩ | ⟨h1, h2⟩
      · rw [hR.len] at hj; omega
      · rcases himg _ x h2 with h3 | ⟨i, y, _, h4, h5⟩
        · exact .inl h3
        · exact .inr ⟨i, y, h4, h5⟩
    · intro g o ho
      by_cases hl : isL g
      · rw [(hE'Im g).1 hl] at ho; cases ho
      · rw [(hE'Im g).2 hl] at ho
        rcases himE g o ho hl with h1 | h1 | ⟨j, y, _, h2, h3⟩
        · exact .inl h1
        · exact .inr (.inl h1)
        · exact .inr (.inr ⟨j, y, h2, h3⟩)
    · intro g hg hn
      refine k1.keep g hg fun i y hy e => ?_
      obtain ⟨j, h3, h4⟩ := (hget _ _).mp hy
      exact hn j y h4 e
  · refine ⟨?_, ?_, ?_, ?_, ?_, ?_, ?_, Globs.mono _ _ himE' hR.gl⟩
    · rw [hBl]; show (E.ρ ++ E2.ρ.drop sel.length).length = _
      rw [List.length_append, List.length_drop, hR.len, k2.len]
    · intro k cs hk
      rcases hB k _ hk (by simp) with ⟨h1, h2, h3⟩ | ⟨i, b', h1, _, h2, h3, _⟩
      · obtain ⟨g, f, c, t, e1, e2, e3⟩ := hR.blk k cs h3
        refine ⟨g, f, c, t, hold _ _ e1, (hfarO k _ ⟨_, h3, by simp⟩ h2 e1).trans e2, ?_⟩
        exact e3.mono ⟨hold, fun g o ho => by
          have hl : ¬ isL g := by
            rintro ⟨j, hj, x, hx, rfl⟩
            obtain ⟨⟨cs, hc⟩, _⟩ := hlend j hj
            have := hR.imd j x ⟨_, hc, by simp⟩ hx
            rw [this] at ho; cases ho
          rw [(hE'Im g).2 hl]
          exact k1.le.im _ _ (himle _ _ ho)⟩
      · cases b' with
        | dead => cases h2
        | mp _ => cases h2
        | c ds =>
          cases h2
          obtain ⟨g, f, c, t, e1, e2, e3⟩ := k2.blk i ds h1
          exact ⟨g, f, c, t, h3 _ e1, e2, hcs i ds _ h1 e3⟩
    · intro k es hk
      rcases hB k _ hk (by simp) with ⟨h1, h2, h3⟩ | ⟨i, b', h1, _, h2, h3, _⟩
      · obtain ⟨g, f, q, es', kk, e1, e2, e3⟩ := hR.mp k es h3
        refine ⟨g, f, q, es', kk, hold _ _ e1, (hfarO k _ ⟨_, h3, by simp⟩ h2 e1).trans e2, ?_⟩
        exact e3.mono ⟨hold, fun g o ho => by
          have hl : ¬ isL g := by
            rintro ⟨j, hj, x, hx, rfl⟩
            obtain ⟨⟨cs, hc⟩, _⟩ := hlend j hj
            have := hR.imd j x ⟨_, hc, by simp⟩ hx
            rw [this] at ho; cases ho
          rw [(hE'Im g).2 hl]
          exact k1.le.im _ _ (himle _ _ ho)⟩
      · cases b' with
        | dead => cases h2
        | c _ => cases h2
        | mp ds =>
          cases h2
          obtain ⟨g, f, q, es', kk, e1, e2, e3⟩ := k2.mp i ds h1
          exact ⟨g, f, q, es', kk, h3 _ e1, e2, hms i ds _ h1 e3⟩
    · rintro a b x x' ⟨ba, ha, hda⟩ ⟨bb, hb, hdb⟩ hx hx' e
      -- a number that is no call's against one that is
      have mix : ∀ (a b : Nat) (x x' : Nat × Nat × Nat) (bb : Blk), (a < H.length ∧ a ∉ sel ∧ alive H a) → E'.ρ[a]? = some x → E'.ρ[b]? = some x' → x.1 = x'.1 → (∀ i : Nat, (H.length ≤ b ∧ i = sel.length + (b - H.length)) ∨ (b < H.length ∧ sel[i]? = some b) → ∀ y, E2.ρ[i]? = some y → E'.ρ[b]? = some y → False) → ∀ i : Nat, ((H.length ≤ b ∧ i = sel.length + (b - H.length)) ∨ (b < H.length ∧ sel[i]? = some b)) → i < E2.ρ.length → (∀ y, E2.ρ[i]? = some y → E'.ρ[b]? = some y) → False := by
        intro a b x x' bb _ _ _ _ hno i hi hil h3
        exact hno i hi _ (List.getElem?_eq_getElem hil) (h3 _ (List.getElem?_eq_getElem hil))
      have other : ∀ (a b : Nat) (x x' : Nat × Nat × Nat), a < H.length → a ∉ sel → alive H a → E'.ρ[a]? = some x → ∀ i : Nat, E2.ρ[i]? = some x' → x.1 = x'.1 → False := by
        intro a b x x' h1 h2 h3 hx i hi e
        rcases hE' a x hx with ⟨_, hx0⟩ | ⟨h4, _⟩
        · rcases himg i x' hi with h5 | ⟨j, y, h5, h6, h7⟩
          · have := hR.lt _ _ hx0; omega
          · have := hR.inj a j x y h3 (hselA j h5) hx0 h6 (e.trans h7.symm)
            subst this; exact h2 h5
        · omega
      rcases hB a _ ha hda with ⟨a1, a2, a3⟩ | ⟨i, b1, a1, ad, a2, a3, a4⟩ <;> rcases hB b _ hb hdb with ⟨c1, c2, c3⟩ | ⟨i', b2, c1, cd, c2, c3, c4⟩
      · rcases hE' a x hx with ⟨_, hx0⟩ | ⟨h4, _⟩
        · rcases hE' b x' hx' with ⟨_, hx1⟩ | ⟨h4, _⟩
          · exact hR.inj a b x x' ⟨_, a3, hda⟩ ⟨_, c3, hdb⟩ hx0 hx1 e
          · omega
        · omega
      · have hil : i' < E2.ρ.length := by rw [k2.len]; exact (List.getElem?_eq_some_iff.mp c1).1
        have h5 := c3 _ (List.getElem?_eq_getElem hil)
        rw [hx'] at h5; cases h5
        exact (other a b x _ a1 a2 ⟨_, a3, hda⟩ hx i' (List.getElem?_eq_getElem hil) e).elim
      · have hil : i < E2.ρ.length := by rw [k2.len]; exact (List.getElem?_eq_some_iff.mp a1).1
        have h5 := a3 _ (List.getElem?_eq_getElem hil)
        rw [hx] at h5; cases h5
        exact (other b a x' _ c1 c2 ⟨_, c3, hdb⟩ hx' i (List.getElem?_eq_getElem hil) e.symm).elim
      · have hil : i < E2.ρ.length := by rw [k2.len]; exact (List.getElem?_eq_some_iff.mp a1).1
        have hil' : i' < E2.ρ.length := by rw [k2.len]; exact (List.getElem?_eq_some_iff.mp c1).1
        have h5 := a3 _ (List.getElem?_eq_getElem hil)
        rw [hx] at h5; cases h5
        have h6 := c3 _ (List.getElem?_eq_getElem hil')
        rw [hx'] at h6; cases h6
        have := k2.inj i i' _ _ ⟨b1, a1, ad⟩ ⟨b2, c1, cd⟩ (List.getElem?_eq_getElem hil) (List.getElem?_eq_getElem hil') e
        subst this
        rcases a4 with ⟨p1, p2⟩ | ⟨p1, p2⟩ <;> rcases c4 with ⟨q1, q2⟩ | ⟨q1, q2⟩
        · omega
        · have := (List.getElem?_eq_some_iff.mp q2).1; omega
        · have := (List.getElem?_eq_some_iff.mp p2).1; omega
        · rw [p2] at q2; exact Option.some.inj q2
    · intro k x hx
      rcases hE' k x hx with ⟨_, h1⟩ | ⟨_, h1⟩
      · exact Nat.lt_of_lt_of_le (hR.lt _ _ h1) k1.size
      · exact k2.lt _ _ h1
    · intro g o ho
      by_cases hl : isL g
      · rw [(hE'Im g).1 hl] at ho; cases ho
      · rw [(hE'Im g).2 hl] at ho; exact k2.im g o ho
    · rintro k x ⟨b, hb, hd⟩ hx
      by_cases hl : isL x.1
      · exact (hE'Im _).1 hl
      · rw [(hE'Im _).2 hl]
        rcases hB k _ hb hd with ⟨h1, h2, h3⟩ | ⟨i, b', h1, hd', h2, h3, _⟩
        · rcases hE' k x hx with ⟨_, hx0⟩ | ⟨h4, _⟩
          · cases hI : E2.Im x.1 with
            | none => rfl
            | some o =>
              rcases himE _ o hI hl with h5 | h5 | ⟨j, y, h5, h6, h7⟩
              · have := hR.imd k x ⟨_, h3, hd⟩ hx0; rw [this] at h5; cases h5
              · have := hR.lt _ _ hx0; omega
              · have := hR.inj k j x y ⟨_, h3, hd⟩ (hselA j h5) hx0 h6 h7.symm
                subst this; exact absurd h5 h2
          · omega
        · have hil : i < E2.ρ.length := by rw [k2.len]; exact (List.getElem?_eq_some_iff.mp h1).1
          have h5 := h3 _ (List.getElem?_eq_getElem hil)
          rw [hx] at h5; cases h5
          exact k2.imd i _ ⟨b', h1, hd'⟩ (List.getElem?_eq_getElem hil)
  · cases r with
    | ret x =>
      cases e with
      | returned v =>
        rcases hnr with hl | ⟨hn, _⟩
        · exact VR.sub hback (himB hl) _ _ k4
        · exact VR.subN hback _ _ hn k4
      | panicked c => exact k4.elim
      | outgrown => exact k4.elim
    | pan x =>
      cases e with
      | returned v => exact k4.elim
      | panicked c =>
        obtain ⟨v, rfl, k4⟩ := k4
        refine ⟨v, rfl, ?_⟩
        rcases hnr with hl | ⟨hn, _⟩
        · exact VR.sub hback (himB hl) _ _ k4
        · exact VR.subN hback _ _ hn k4
      | outgrown => exact k4.elim
end Go.AK
namespace Go.AK
open Go Go.RowKit
set_option linter.unusedSectionVars false
variable [Globs]
set_option linter.unusedVariables false
def aresults (T : TT) (r : Regs) (H : Heap) : List ResultVar → (List AV → Prop) → Prop
  | [], K => K []
  | .tmp t :: rs, K => evalK r (.tmp t) fun v => aresults T r H rs fun vs => K (v :: vs)
  | .cell a t :: rs, K => evalK r (.tmp a) fun v => tiK T t fun ti => match v with
    | .p (some (j, o)) => ablk H j fun cs => aload ti cs o fun v => aresults T r H rs fun vs => K (v :: vs)
    | _ => False
def one (vs : List AV) (K : AV → Prop) : Prop :=
  match vs with
  | [v] => K v
  | vs => K (.tup vs)
def outK (T : TT) (rs : List ResultVar) (K : ARes → Heap → Prop) : AX → Regs → Heap → Prop
  | .normal, r, H => aresults T r H rs fun vs => one vs fun v => K (.ret v) H
  | .ret, r, H => aresults T r H rs fun vs => one vs fun v => K (.ret v) H
  | .panic v, r, H => K (.pan v) H
  | .exit _, _, _ => False
def argR : Nat → List AV → Regs
  | _, [] => []
  | k, v :: vs => (k, v) :: argR (k + 1) vs
theorem argR_get : ∀ {vs : List AV} {k t : Nat} {v : AV}, getR (argR k vs) t = some v → k ≤ t ∧ vs[t - k]? = some v
  | [], _, _, _, h => by cases h
  | x :: xs, k, t, v, h => by
    unfold argR getR at h
    split at h
    · rename_i hb; have := Nat.eq_of_beq_eq_true hb; subst this; cases h; exact ⟨Nat.le_refl _, by simp⟩
    · rename_i hb
      have hne : k ≠ t := fun e => by subst e; simp at hb
      obtain ⟨h1, h2⟩ := argR_get h
      refine ⟨by omega, ?_⟩
      rw [show t - k = (t - (k + 1)) + 1 from by omega]
      simpa using h2
section
variable {P : Program} {T : TT} {n0 nt : Nat}
def resG (tmps : Array Value) : ResultVar → Sem Value
  | .tmp t => pure (tmps.getD t undef)
  | .cell x t => do loadVar t (← asAddr (tmps.getD x undef))
theorem results_eq (fn : Func) (tmps : Array Value) : results fn tmps = (do let vs ← fn.results.mapM (resG tmps); pure (if h : vs.size = 1 then vs[0] else .tuple vs)) := by
  unfold results
  congr 2
theorem aresults_sound (hT : TOK P T) {E0 E : Env} {w0 w : World} {r : Regs} {H : Heap} {a : Act} (h : BR n0 nt E0 w0 E r H a w) : ∀ (rs : List ResultVar) (K : List AV → Prop), aresults T r H rs K →
    ∃ vs us, K vs ∧ VRL E vs us ∧ us.length = rs.length ∧ (rs.mapM (resG a.tmps)).run P w = .ok us w
  | [], K, hk => ⟨[], [], hk, rfl, rfl, rfl⟩
  | .tmp t :: rs, K, hk => by
    obtain ⟨v, h1, h2⟩ := evalK_sound h.rr hk
    obtain ⟨vs, us, h3, h4, h5, h6⟩ := aresults_sound hT h rs _ h2
    have h1' : VR E v (a.tmps.getD t undef) := h1
    refine ⟨_, _, h3, ⟨_, _, rfl, h1', h4⟩, by simp [h5], ?_⟩
    simp only [List.mapM_cons, resG, Sem.run_bind, Sem.run_pure, Result.andThen_ok, h6]
  | .cell x t :: rs, K, hk => by
    obtain ⟨v, h1, h2⟩ := evalK_sound h.rr hk
    replace h2 := tiK_some h2
    obtain ⟨ti, ht, h2⟩ := h2
    split at h2
    · rename_i j of_
      obtain ⟨cs, hj, h2⟩ := ablk_some h2
      obtain ⟨g, f, q, hρ, hv⟩ := h1
      obtain ⟨g', f', b, t', e1, e2, e3⟩ := h.rel.blk j cs hj
      rw [hρ] at e1
      simp only [Option.some.injEq, Prod.mk.injEq] at e1
      obtain ⟨rfl, rfl, rfl⟩ := e1
      obtain ⟨y, u, h6, h7, h8⟩ := loadVar_run hT ht e2 e3 h2
      obtain ⟨vs, us, h3, h4, h5, h9⟩ := aresults_sound hT h rs _ h7
      have hv' : a.tmps.getD x undef = .pointer (some ⟨g, f + of_, none⟩) := hv
      refine ⟨_, _, h3, ⟨_, _, rfl, h6, h4⟩, by simp [h5], ?_⟩
      have h10 := h8 w e2
      simp only [List.mapM_cons, resG, Sem.run_bind, Sem.run_pure, Result.andThen_ok, hv', asAddr, h10, h9]
    · exact h2.elim
/-- A call, by its body. -/
theorem ACall.enter (hT : TOK P T) {f : Nat} {fn : Func} {c : Code} {args : List AV} {H : Heap} {K : ARes → Heap → Prop} (ip : Bool) (hf : P.funcs[f]? = some fn) (hb : fn.body = some c) (hn : (fn.name == "runtime.NumGoroutine") = false)
    (hl : Nat.ble args.length fn.ntmps = true) (h : SW P H.length fn.ntmps c (argR 0 args) H (outK T fn.results.toList K)) : ACall P f args H K := by
  refine ⟨⟨fn, hf, hn⟩, fun E w vs hR hv => .inl ⟨fn, hf, by rw [hb]; rfl, ?_⟩⟩
  replace hl := Nat.le_of_ble_eq_true hl
  have hvl := hv.length
  have hvs : vs.size = args.length := by simpa using hvl
  have hbr : BR H.length fn.ntmps E w E (argR 0 args) H { tmps := vs ++ Array.replicate (fn.ntmps - vs.size) undef, defers := [] } w := by
    refine ⟨hR.len, .refl E w, hR, ⟨by simp; omega, fun t v ht => ?_⟩, rfl⟩
    obtain ⟨_, h2⟩ := argR_get ht
    simp only [Nat.sub_zero] at h2
    have htl := (List.getElem?_eq_some_iff.mp h2).1
    obtain ⟨u, h3, h4⟩ := hv.get h2
    refine ⟨by omega, ?_⟩
    have h5 : vs[t]? = some u := by simpa using h3
    have h6 : (vs ++ Array.replicate (fn.ntmps - vs.size) undef).getD t undef = u := by
      rw [Array.getD_eq_getD_getElem?, Array.getElem?_append_left (by omega), h5]; rfl
    show VR E v ((vs ++ Array.replicate (fn.ntmps - vs.size) undef).getD t undef)
    rw [h6]; exact h4
  refine calls_of_wp hf hb ?_
  refine wp_mono (h E w E _ w hbr) fun e a' w' ⟨x, E', r', H', k1, k2, k3⟩ => ?_
  have fin : ∀ (k3 : aresults T r' H' fn.results.toList fun vs => one vs fun v => K (.ret v) H'), a'.defers = [] ∧ ∃ v, (results fn a'.tmps).run P w' = .ok v w' ∧ ∃ r E' H', Ext E w E' w' ∧ Rel E' H' w' ∧ K r H' ∧
      match r, Ending.returned v with
      | .ret x, .returned v => VR E' x v
      | .pan x, .panicked chain => ∃ v, chain = [{ v, recovered := false }] ∧ VR E' x v
      | _, _ => False := by
    intro k3
    obtain ⟨us, ws, h1, h2, h3, h4⟩ := aresults_sound hT k2 _ _ k3
    have hrun : ∀ g : ResultVar → Sem Value, (fn.results.toList.mapM g).run P w' = .ok ws w' → (fn.results.mapM g).run P w' = .ok ws.toArray w' := by
      intro g hg
      rw [Array.mapM_eq_mapM_toList, Sem.run_map, hg]; rfl
    have h5 := hrun _ h4
    refine ⟨k2.nd, ?_⟩
    have hul := h2.length
    unfold one at h1
    split at h1
    · rename_i v
      obtain ⟨u, hu, h6⟩ := vrl_one h2
      subst hu
      refine ⟨u, ?_, _, E', H', k2.ext, k2.rel, h1, h6⟩
      simp only [results_eq, Sem.run_bind, h5, Result.andThen_ok]
      simp
    · rename_i hne
      refine ⟨.tuple ws.toArray, ?_, _, E', H', k2.ext, k2.rel, h1, ⟨_, rfl, by simpa using h2⟩⟩
      simp only [results_eq, Sem.run_bind, h5, Result.andThen_ok]
      have hsz : ¬ ws.length = 1 := by
        intro e
        rw [hul] at e
        obtain ⟨v, hv⟩ := List.length_eq_one_iff.mp e
        exact hne v hv
      simp [hsz]
  cases x <;> cases e <;> first | exact k1.elim | skip
  · exact fin k3
  · exact k3.elim
  · exact fin k3
  · obtain ⟨v, rfl, k1⟩ := k1
    exact ⟨k2.nd, _, E', H', k2.ext, k2.rel, k3, v, rfl, k1⟩
theorem ACall.mono {f : Nat} {args : List AV} {H : Heap} {K K' : ARes → Heap → Prop} (h : ACall P f args H K) (hk : ∀ r H', K r H' → K' r H') : ACall P f args H K' :=
  ⟨h.1, fun E w vs hR hv => (h.2 E w vs hR hv).mono fun e w' ⟨r, E', H', k1, k2, k3, k4⟩ => ⟨r, E', H', k1, k2, hk r H' k3, k4⟩⟩
/-- What is handed in may be told otherwise. -/
def VLe (xs ys : List AV) : Prop := ∀ E vs, VRL E xs vs → VRL E ys vs
theorem ACall.args {f : Nat} {args args' : List AV} {H : Heap} {K : ARes → Heap → Prop} (h : ACall P f args' H K) (ha : VLe args args') : ACall P f args H K :=
  ⟨h.1, fun E w vs hR hv => h.2 E w vs hR (ha E _ hv)⟩
/-- What a call answers, told otherwise. -/
def GhR (n0 : Nat) (R : ARes → Heap → Prop) (x : ARes) (H : Heap) : Prop :=
  ∀ E0 w0 E w, E0.ρ.length = n0 → Ext E0 w0 E w → Rel E H w → ∃ E' x' H', Ext E0 w0 E' w ∧ Rel E' H' w ∧ R x' H' ∧
    match x, x' with
    | .ret x, .ret x' => ∀ v, VR E x v → VR E' x' v
    | .pan x, .pan x' => ∀ v, VR E x v → VR E' x' v
    | _, _ => False
theorem GhR.of {R : ARes → Heap → Prop} {x : ARes} {H : Heap} (h : R x H) : GhR n0 R x H := fun E0 w0 E w _ he hR => ⟨E, x, H, he, hR, h, by cases x <;> exact fun v hv => hv⟩
theorem ACall.gh {f : Nat} {args : List AV} {H : Heap} {K : ARes → Heap → Prop} (h : ACall P f args H (GhR H.length K)) : ACall P f args H K := by
  refine ⟨h.1, fun E w vs hR hv => (h.2 E w vs hR hv).mono fun e w' ⟨r, E', H', k1, k2, k3, k4⟩ => ?_⟩
  obtain ⟨E2, x', H2, l1, l2, l3, l4⟩ := k3 E w E' w' hR.len k1 k2
  refine ⟨x', E2, H2, l1, l2, l3, ?_⟩
  cases r with
  | ret x => cases x' with
    | ret x' => cases e <;> first | exact k4.elim | exact l4 _ k4
    | pan _ => exact l4.elim
  | pan x => cases x' with
    | ret _ => exact l4.elim
    | pan x' => cases e <;> first | exact k4.elim | (obtain ⟨v, hv, k4⟩ := k4; exact ⟨v, hv, l4 _ k4⟩)
/-- Blocks numbered anew. -/
theorem GhR.sel {R : ARes → Heap → Prop} {x : ARes} {H : Heap} (sel : List Nat) (hs : selB n0 H sel = true) (h : GhR n0 R (subR (selφ sel) x) (pick (selφ sel) H sel)) : GhR n0 R x H := by
  intro E0 w0 E w hn he hR
  obtain ⟨E1, h1, h2, h3, h4⟩ := hR.sel hn he hs
  obtain ⟨E2, x', H2, k1, k2, k3, k4⟩ := h E0 w0 E1 w hn h1 h2
  refine ⟨E2, x', H2, k1, k2, k3, ?_⟩
  have him : ∀ g o, E.Im g = some o → E1.Im g = some o := fun g o ho => by rw [h4]; exact ho
  cases x <;> cases x' <;> first | exact k4.elim | exact fun v hv => k4 v (VR.sub h3 him _ _ hv)
theorem GhR.frz {R : ARes → Heap → Prop} {x : ARes} {H : Heap} (j : Nat) {cs : List AV} (hj : H[j]? = some (.c cs)) (h : GhR n0 R (subR (frzφ j cs) x) (frzH j cs H)) : GhR n0 R x H := by
  intro E0 w0 E w hn he hR
  obtain ⟨E1, h1, h2, h3, h4⟩ := hR.freeze he hj
  obtain ⟨E2, x', H2, k1, k2, k3, k4⟩ := h E0 w0 E1 w hn h1 h2
  refine ⟨E2, x', H2, k1, k2, k3, ?_⟩
  cases x <;> cases x' <;> first | exact k4.elim | exact fun v hv => k4 v (VR.sub h3 h4.im _ _ hv)
section
variable [Defs]
/-- .. within a body. -/
def subG (φ : Nat → Sb) : Regs → Regs
  | [] => []
  | (t, v) :: r => (t, sub φ v) :: subG φ r
theorem subG_get {φ : Nat → Sb} : ∀ {r : Regs} {t : Nat} {v : AV}, getR (subG φ r) t = some v → ∃ u, getR r t = some u ∧ v = sub φ u
  | [], _, _, h => by cases h
  | (s, x) :: r, t, v, h => by
    unfold subG getR at h
    unfold getR
    split at h
    · rename_i hb; cases h; rw [if_pos hb]; exact ⟨_, rfl, rfl⟩
    · rename_i hb; rw [if_neg hb]; exact subG_get h
theorem Gh.sel {R : Regs → Heap → Prop} {r : Regs} {H : Heap} (sel : List Nat) (hs : selB n0 H sel = true) (h : Gh n0 nt R (subG (selφ sel) r) (pick (selφ sel) H sel)) : Gh n0 nt R r H := by
  intro E0 w0 E a w hb
  obtain ⟨E1, h1, h2, h3, h4⟩ := hb.rel.sel hb.len0 hb.ext hs
  refine h E0 w0 E1 a w ⟨hb.len0, h1, h2, ⟨hb.rr.size, fun t v ht => ?_⟩, hb.nd⟩
  obtain ⟨u, k1, rfl⟩ := subG_get ht
  exact ⟨(hb.rr.regs t u k1).1, VR.sub h3 (fun g o ho => by rw [h4]; exact ho) _ _ (hb.rr.regs t u k1).2⟩
theorem Gh.frz {R : Regs → Heap → Prop} {r : Regs} {H : Heap} (j : Nat) {cs : List AV} (hj : H[j]? = some (.c cs)) (h : Gh n0 nt R (subG (frzφ j cs) r) (frzH j cs H)) : Gh n0 nt R r H := by
  intro E0 w0 E a w hb
  obtain ⟨E1, h1, h2, h3, h4⟩ := hb.rel.freeze hb.ext hj
  refine h E0 w0 E1 a w ⟨hb.len0, h1, h2, ⟨hb.rr.size, fun t v ht => ?_⟩, hb.nd⟩
  obtain ⟨u, k1, rfl⟩ := subG_get ht
  exact ⟨(hb.rr.regs t u k1).1, VR.sub h3 h4.im _ _ (hb.rr.regs t u k1).2⟩
/-- Of the registers only some. -/
def keepR : List Nat → Regs → Regs
  | [], _ => []
  | t :: ts, r => match getR r t with
    | some v => (t, v) :: keepR ts r
    | none => keepR ts r
theorem keepR_get {r : Regs} : ∀ {ts : List Nat} {t : Nat} {v : AV}, getR (keepR ts r) t = some v → getR r t = some v
  | [], _, _, h => by cases h
  | s :: ts, t, v, h => by
    unfold keepR at h
    split at h
    · rename_i u hu
      unfold getR at h
      split at h
      · rename_i hb; have := Nat.eq_of_beq_eq_true hb; subst this; cases h; exact hu
      · exact keepR_get h
    · exact keepR_get h
theorem Gh.regs {R : Regs → Heap → Prop} {r : Regs} {H : Heap} (ts : List Nat) (h : Gh n0 nt R (keepR ts r) H) : Gh n0 nt R r H := fun E0 w0 E a w hb =>
  h E0 w0 E a w ⟨hb.len0, hb.ext, hb.rel, ⟨hb.rr.size, fun t v ht => hb.rr.regs t v (keepR_get ht)⟩, hb.nd⟩
theorem keep_eq {φ : Nat → Sb} {r r' q : Regs} (h : r = r') (h2 : subG φ r' = q) : subG φ r = q := by rw [h]; exact h2
theorem Gh.mono {R R' : Regs → Heap → Prop} {r : Regs} {H : Heap} (h : Gh n0 nt R r H) (hr : ∀ r H, R r H → R' r H) : Gh n0 nt R' r H := fun E0 w0 E a w hb => by
  obtain ⟨E', r', H', h1, h2⟩ := h E0 w0 E a w hb
  exact ⟨E', r', H', h1, hr _ _ h2⟩
end
end
theorem TOK_of {P : Program} {T : TT} (h : (T.all fun p => tiB P p.1 p.2) = true) : TOK P T := by
  intro t ti ht
  induction T with
  | nil => cases ht
  | cons p r ih =>
    obtain ⟨u, ui⟩ := p
    simp only [List.all_cons, Bool.and_eq_true] at h
    unfold tiOf at ht
    split at ht
    · rename_i hb; have := Nat.eq_of_beq_eq_true hb; subst this; cases ht; exact h.1
    · exact ih h.2 ht
/-- A row of numbers. -/
def nums (k : IntKind) (L : List Int) : List AV := L.map (.i k)
abbrev ints (L : List Int) : List AV := nums .i64 L
theorem nums_length (k : IntKind) (L : List Int) : (nums k L).length = L.length := by simp [nums]
theorem nums_append (k : IntKind) (L M : List Int) : nums k (L ++ M) = nums k L ++ nums k M := by simp [nums]
theorem nums_take (k : IntKind) (L : List Int) (n : Nat) : (nums k L).take n = nums k (L.take n) := by simp [nums]
theorem nums_drop (k : IntKind) (L : List Int) (n : Nat) : (nums k L).drop n = nums k (L.drop n) := by simp [nums]
theorem nums_set (k : IntKind) (L : List Int) (n : Nat) (x : Int) : (nums k L).set n (.i k x) = nums k (L.set n x) := by simp [nums, List.map_set]
theorem setCells_nums (k : IntKind) (L : List Int) (n : Nat) (x : Int) : setCells (nums k L) n (AV.i k x).cells = nums k (L.set n x) := nums_set k L n x
theorem nums_replicate (k : IntKind) (n : Nat) (x : Int) : (List.replicate n [AV.i k x]).flatten = nums k (List.replicate n x) := by simp [nums]
theorem aget_nums {k : IntKind} {L : List Int} {i : Nat} {K : AV → Prop} (h : i < L.length) (hk : K (.i k L[i])) : aget (nums k L) i K := by
  unfold aget
  have : (nums k L)[i]? = some (.i k L[i]) := by simp [nums, h]
  rw [this]; exact hk
theorem flats_nums (k : IntKind) : ∀ (L : List Int), flats (nums k L) = true
  | [] => rfl
  | x :: L => by
    have := flats_nums k L
    simp only [nums, List.map_cons, flats, flat, Bool.true_and] at this ⊢; exact this
theorem nros_nums (k : IntKind) : ∀ (L : List Int), nros (nums k L) = true
  | [] => rfl
  | x :: L => by
    have := nros_nums k L
    simp only [nums, List.map_cons, nros, nro, Bool.true_and] at this ⊢; exact this
theorem ones_nums (k : IntKind) : ∀ (L : List Int), ones (nums k L) = true
  | [] => rfl
  | x :: L => by
    have := ones_nums k L
    simp only [nums, List.map_cons, ones, AV.one, Bool.true_and] at this ⊢; exact this
theorem subs_nums (φ : Nat → Sb) (k : IntKind) : ∀ (L : List Int), subs φ (nums k L) = nums k L
  | [] => rfl
  | x :: L => by
    have := subs_nums φ k L
    simp only [nums, List.map_cons, subs, sub] at this ⊢; rw [this]
/-- A read slice, told from its own begin. -/
theorem VLe.rs {cs ds : List AV} {o z n : Nat} {xs ys : List AV} (hd : (cs.drop o).take ds.length = ds) (hl : ds.length ≤ (cs.drop o).length) (h : VLe xs ys) : VLe (.rs cs o z n :: xs) (.rs ds 0 z n :: ys) := by
  rintro E vs ⟨v, vs', h1, h2, h3⟩
  refine ⟨v, vs', h1, ?_, h E _ h3⟩
  rcases h2 with ⟨rfl, a, c, rfl⟩ | ⟨g, f, c, t, fz, cap, k1, rfl, k2, k3⟩
  · exact .inl ⟨rfl, _, _, rfl⟩
  · refine .inr ⟨g, f + o, c, t, fz, cap, k1, by simp, k2, ?_⟩
    have := ((k3.drop o).take ds.length hl).pfx (((c.toList.drop f).drop o).drop ds.length)
    rw [hd, List.take_append_drop, List.drop_drop] at this
    exact this
theorem VLe.cons {x : AV} {xs ys : List AV} (h : VLe xs ys) : VLe (x :: xs) (x :: ys) := by
  rintro E vs ⟨v, vs', h1, h2, h3⟩
  exact ⟨v, vs', h1, h2, h E _ h3⟩
theorem VLe.nil : VLe [] [] := fun _ _ h => h
end Go.AK
