import Derived.Test.YtmhagleekhihoaaAK11
namespace Go.AK
open Go Go.RowKit
set_option linter.unusedVariables false
section
variable {P : Program} {T : TT}
variable {nt : Nat} {E : Env} {H : Heap} {w : World} {r : Regs} {a : Act} {o : Oper} {next : Act → World → Prop} {Q : Exit → Act → World → Prop} {K : ARes → Heap → Prop}
theorem aop_sound (hT : TOK P T) (hr : RR nt E r a) (hR : Rel E H w) (hN : Nx E w a o.dst next Q K) (ip : Bool) (h : aop P T ip r H o.op K) : o.wp P a w next Q := by
  have sil : ∀ (h : asil P T r o.op fun v => K (.ret v) H), o.wp P a w next Q := fun h => hN.sil hR (asil_sound hT hr h)
  generalize hop : o.op = op at h
  cases op
  case box t x =>
    simp only [aop] at h
    replace h := evalK_sound hr h
    obtain ⟨v, h1, h⟩ := h
    replace h := acond_true h
    obtain ⟨hb, h⟩ := h
    exact hN.new hR (t := t) (h1.cells (kn_of_one hb)) (y := .p (some (H.length, 0))) (v := .pointer (some ⟨w.heap.size, 0, none⟩)) (fun E' hE => ⟨_, 0, _, hE, rfl⟩) h (by simp [execOp, hop, Instr.box, newVar, newRow])
  case alloc t =>
    simp only [aop] at h
    replace h := tiK_some h
    obtain ⟨ti, ht, h⟩ := h
    replace h := acond_true h
    obtain ⟨hb, h⟩ := h
    obtain ⟨z, hz1, hz2, hz3⟩ := hT.zeroValue ht w
    exact hN.new hR (t := t) ((hz2 E).cells (kn_of_one hb)) (y := .p (some (H.length, 0))) (v := .pointer (some ⟨w.heap.size, 0, none⟩)) (fun E' hE => ⟨_, 0, _, hE, rfl⟩) h (by simp [execOp, hop, Instr.alloc, hz1, newVar, newRow])
  case buildSlice t n ps =>
    simp only [aop] at h
    replace h := tiK_some h
    obtain ⟨ti, ht, h⟩ := h
    obtain ⟨d, hd, hdd⟩ := hT.desc ht
    generalize ti.d = D at h hdd
    split at h
    · rename_i e
      obtain rfl := desc_sl hdd
      replace h := tiK_some h
      obtain ⟨te, hte, h⟩ := h
      replace h := evalsK_sound hr h
      obtain ⟨vs, h1, h⟩ := h
      replace h := acond_true h
      obtain ⟨hb, h⟩ := h
      have hb : n * te.sz ≤ 16777216 := Nat.le_of_ble_eq_true hb
      obtain ⟨z, hz1, hz2, hz3⟩ := hT.zeroValue hte w
      have hzc := (hz2 E).cells (zero_kn hT hte)
      have hlen := h1.length
      have hps : (ps.toList.map (·.1)).length = vs.length := by simp at hlen ⊢; omega
      have hfl := flatten_vr hzc n
      rw [← madeCells_eq] at hfl
      obtain ⟨ds, c, k1, k2, k3, k4⟩ := afill_sound (place' := fun i => some (i * te.sz, te.sz)) (fun _ _ hx => hx) ((ps.toList.map (·.1)).zip vs) ((ps.map fun p => (p.1, a.eval p.2)).toList) _ _ h hfl
        (by rw [List.map_fst_zip (by omega)]; simp) (by rw [List.map_snd_zip (by omega)]; simpa [Function.comp_def] using h1)
      obtain ⟨hb2, k1⟩ := acond_true k1
      have hcs : c.size = n * te.sz := by
        have e1 := k2.length
        have e2 : (madeCells z.cells (n * z.cells.size)).toList.length = n * te.sz := by rw [Array.length_toList, size_madeCells, hz3]
        have e3 := hfl.length
        rw [← Array.length_toList, e1, k3, ← e3, e2]
      refine hN.new hR (t := e) k2 (y := .sl (some (H.length, 0)) te.sz n n) (v := .slice (some ⟨w.heap.size, 0, none⟩) n n) (fun E' hE => ⟨_, 0, _, 0, hE, rfl, Nat.le_refl _, .inl ⟨rfl, by omega⟩⟩) k1 ?_
      rw [hz3] at k4
      have k4' : Instr.fill (fun i => some (i * te.sz, te.sz)) (madeCells z.cells (n * te.sz)) (ps.toList.map fun p => (p.1, a.eval p.2)) = some c := by simpa using k4
      have hnot : ¬ (16777216 < n * te.sz) := by omega
      by_cases h0 : n * te.sz = 0
      · have hm : madeCells z.cells (n * te.sz) = #[] := by rw [h0]; simp [madeCells, Array.range_zero']
        rw [hm] at k4'
        simp [execOp, hop, Instr.buildSlice, run_underlying hd, hT.sizeOf hte, h0, Array.range_zero', k4', newRow]
      · have hm : ((Array.range (n * te.sz)).map (z.cells[· % z.cells.size]!)) = madeCells z.cells (n * te.sz) := rfl
        simp only [execOp, hop, Instr.buildSlice, Sem.run_bind, run_underlying hd, hT.sizeOf hte, Result.andThen_ok]
        simp [hnot, h0, hz1, k4', newRow, hm]
    · exact h.elim
  case load t x =>
    simp only [aop] at h
    replace h := evalK_sound hr h
    obtain ⟨v, h1, h⟩ := h
    replace h := tiK_some h
    obtain ⟨ti, ht, h⟩ := h
    split at h
    · rename_i j of_
      replace h := ablk_some h
      obtain ⟨cs, hj, h⟩ := h
      obtain ⟨g, f, q, hρ, hv⟩ := h1
      obtain ⟨g', f', b, t', e1, e2, e3⟩ := hR.blk j cs hj
      rw [hρ] at e1
      simp only [Option.some.injEq, Prod.mk.injEq] at e1
      obtain ⟨rfl, rfl, rfl⟩ := e1
      obtain ⟨y, u, h6, h7, h8⟩ := loadVar_run hT ht e2 e3 h
      exact hN.val h7 (.refl E w) hR h6 (by simp [execOp, hop, hv, Instr.loadAt, Instr.sureAddr, h8 w e2])
    · obtain ⟨g, f, c, t', fz, h3, h4, h5⟩ := h1
      obtain ⟨y, u, h6, h7, h8⟩ := loadVar_run hT ht (hR.im _ _ h3) h5 h
      exact hN.val h7 (.refl E w) hR h6 (by simp [execOp, hop, h4, Instr.loadAt, Instr.sureAddr, h8 w (hR.im _ _ h3)])
    · exact h.elim
  case store t x y => exact aop_store hT hr hR hN hop ip h
  case makeSlice t l c =>
    simp only [aop] at h
    replace h := tiK_some h
    obtain ⟨ti, ht, h⟩ := h
    replace h := evalK_sound hr h
    obtain ⟨lv, h1, h⟩ := h
    replace h := evalK_sound hr h
    obtain ⟨cv, h2, h⟩ := h
    obtain ⟨d, hd, hdd⟩ := hT.desc ht
    generalize ti.d = D at h hdd
    split at h
    · rename_i e k l' k' c'
      obtain rfl := desc_sl hdd
      replace h := tiK_some h
      obtain ⟨te, hte, h⟩ := h
      replace h := h
      obtain ⟨⟨p1, p2, p3, p4⟩, h⟩ := h
      obtain ⟨i, z, hi1, hi2, hi3, hi4, hi5, hi6⟩ := hT.info hte
      have hzc := (hi5 E).cells (zero_kn hT hte)
      have h1' : a.eval l = .int k l' := h1
      have h2' : a.eval c = .int k' c' := h2
      have hrun := run_make (P := P) w t e i z hd hi1 hi4 k k' l' c' p1 p2 (by rw [hi3]; exact p3) p4
      have hfl := flatten_vr hzc c'.toNat
      rw [← madeCells_eq, hi6, ← hi2] at hfl
      refine hN.new hR (t := e) hfl (y := .sl (some (H.length, 0)) te.sz l'.toNat c'.toNat) (v := .slice (some ⟨w.heap.size, 0, none⟩) l'.toNat c'.toNat) (fun E' hE => ⟨_, 0, _, 0, hE, rfl, by omega, .inl ⟨rfl, by rw [size_madeCells, hi2]; omega⟩⟩) h ?_
      simp [execOp, hop, h1', h2', hrun]
    · exact h.elim
  case panic x =>
    simp only [aop] at h
    replace h := evalK_sound hr h
    obtain ⟨v, h1, h⟩ := h
    split at h
    · obtain ⟨u, hu, h3⟩ := h1
      unfold Oper.wp
      have hrun : (execOp a.eval o).run P w = .halt (.panic (a.eval x)) w := by simp [execOp, hop, hu, Instr.panic, goPanic]
      rw [hrun]
      exact hN.pan _ H E w _ h (.refl E w) hR ⟨u, hu, h3⟩
    · exact h.elim
  case slice t x lo hi mx =>
    simp only [aop] at h
    have h0 := h
    replace h := tiK_some h
    obtain ⟨ti, ht, h⟩ := h
    replace h := evalK_sound hr h
    obtain ⟨v, h1, h⟩ := h
    obtain ⟨d, hd, hdd⟩ := hT.desc ht
    split at h
    · rename_i j of_
      generalize ti.d = D at h hdd
      split at h
      · rename_i n e
        obtain rfl := desc_arr hdd
        replace h := tiK_some h
        obtain ⟨te, hte, h⟩ := h
        replace h := acond_true h
        obtain ⟨hz, h⟩ := h
        replace hz := Nat.eq_of_beq_eq_true hz
        replace h := ablk_some h
        obtain ⟨cs, hj, hfit, h⟩ := h
        obtain ⟨l, h, hl⟩ := aopt_sound hr h
        obtain ⟨u, h, hu⟩ := aopt_sound hr h
        obtain ⟨l', r', k1, k2, k3, _, k4⟩ := abounds_sound (P := P) h (Nat.le_refl _) hl hu false
        obtain ⟨g, f, q, hρ, hv⟩ := h1
        obtain ⟨g', f', b, t', e1, e2, e3⟩ := hR.blk j cs hj
        rw [hρ] at e1
        simp only [Option.some.injEq, Prod.mk.injEq] at e1
        obtain ⟨rfl, rfl, rfl⟩ := e1
        have hbl := e3.length
        simp only [List.length_drop, Array.length_toList] at hbl
        refine hN.val (v := .slice (if n = l' then some ⟨g, f + of_, none⟩ else some ⟨g, f + of_ + l', none⟩) (r' - l') (n - l')) k1 (.refl E w) hR ?_ ?_
        · by_cases e : n = l'
          · rw [if_pos e]; exact ⟨g, f, _, _, hρ, rfl, by omega, .inr (by omega)⟩
          · rw [if_neg e]; exact ⟨g, f, _, _, hρ, rfl, by omega, .inl ⟨by omega, by omega⟩⟩
        · have hs : ∀ w, (sizeOf e).run P w = .ok 1 w := fun w => by rw [← hz]; exact hT.sizeOf hte w
          simp only [execOp, hop, Instr.sliceAt, Instr.sureAddr, hv, Option.map_none, Sem.run_bind, Sem.run_pure, run_underlying hd, Result.andThen_ok, k4, hs]
          by_cases e : n = l'
          · simp [e]
          · simp [e, add_zero_addr]
      · exact h.elim
    · exact sil (hop ▸ h)
  case call c =>
    simp only [aop] at h
    obtain ⟨callee, args, tys⟩ := c
    cases callee with
    | value f => exact aop_val hN hR hr hT hop ip h
    | invoke x m => exact h.elim
    | builtin b =>
      by_cases hb1 : b = .append
      · subst hb1; exact aop_append hT hr hR hN hop rfl ip h
      · by_cases hb2 : b = .copy
        · subst hb2; exact aop_copy hT hr hR hN hop rfl ip h
        · by_cases hb3 : b = .clear
          · subst hb3; exact aop_clear hT hr hR hN hop rfl ip h
          · refine sil ?_
            rw [hop]
            cases b <;> first | exact absurd rfl hb1 | exact absurd rfl hb2 | exact absurd rfl hb3 | exact h
  all_goals exact sil (hop ▸ h)
end
end Go.AK
