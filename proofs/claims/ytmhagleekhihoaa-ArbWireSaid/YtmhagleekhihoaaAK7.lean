import Derived.Test.YtmhagleekhihoaaAK6
namespace Go.AK
open Go Go.RowKit
set_option linter.unusedVariables false
section
variable {P : Program} {T : TT}
theorem aindex_sound (hT : TOK P T) {E : Env} {t : Nat} {ti te : TI} (ht : tiOf T t = some ti) (hte : tiOf T (elemT ti.d) = some te) {v : AV} {a : Value} {k : IntKind} {n : Int} {K : AV → Prop} (h : aindex ti te v n K) (hv : VR E v a) :
    SilR P E (Instr.indexAt t a (.int k n)) K := by
  obtain ⟨d, hd, hdd⟩ := hT.desc ht
  have hs := hT.sizeOf hte
  unfold aindex at h
  generalize ti.d = D at h hdd hs
  split at h
  · rename_i e j o z m c
    obtain rfl := desc_sl hdd
    replace h := acond_true h
    obtain ⟨hz, hb, h⟩ := h
    obtain rfl := Nat.eq_of_beq_eq_true hz
    obtain ⟨g, f, q, o', h5, rfl, h6, h7⟩ := hv
    refine SilR.of h (v := .pointer (some ⟨g, f + o + n.toNat * te.sz, none⟩)) ⟨g, f, q, h5, by rw [Nat.add_assoc]⟩ fun w => ?_
    have e0 : o' = f + o := by
      rcases h7 with ⟨h7, _⟩ | h7
      · exact h7
      · omega
    have hs' : (sizeOf e).run P w = .ok te.sz w := hs w
    simp [Instr.indexAt, asIntOf, run_underlying hd, hb, hs', e0, add_zero_addr]
  · rename_i e cs o z m
    obtain rfl := desc_sl hdd
    replace h := acond_true h
    obtain ⟨hz, hb, h⟩ := h
    obtain rfl := Nat.eq_of_beq_eq_true hz
    rcases hv with ⟨rfl, a, c, rfl⟩ | ⟨g, f, c, t', fz, cap, h5, rfl, h6, h7⟩
    · omega
    · refine SilR.of h (v := .pointer (some ⟨g, f + o + n.toNat * te.sz, none⟩)) ⟨g, f, c, t', fz, h5, by rw [Nat.add_assoc], h7⟩ fun w => ?_
      have hs' : (sizeOf e).run P w = .ok te.sz w := hs w
      simp [Instr.indexAt, asIntOf, run_underlying hd, hb, hs', add_zero_addr]
  · rename_i m e j o
    obtain rfl := desc_arr hdd
    obtain ⟨hb, h⟩ := h
    obtain ⟨g, f, q, h5, rfl⟩ := hv
    refine SilR.of h (v := .pointer (some ⟨g, f + o + n.toNat * te.sz, none⟩)) ⟨g, f, q, h5, by rw [Nat.add_assoc]⟩ fun w => ?_
    have hs' : (sizeOf e).run P w = .ok te.sz w := hs w
    simp [Instr.indexAt, Instr.sureAddr, asIntOf, run_underlying hd, hb, hs', add_zero_addr]
  · rename_i m e cs o
    obtain rfl := desc_arr hdd
    obtain ⟨hb, h⟩ := h
    obtain ⟨g, f, c, t', fz, h5, rfl, h7⟩ := hv
    refine SilR.of h (v := .pointer (some ⟨g, f + o + n.toNat * te.sz, none⟩)) ⟨g, f, c, t', fz, h5, by rw [Nat.add_assoc], h7⟩ fun w => ?_
    have hs' : (sizeOf e).run P w = .ok te.sz w := hs w
    simp [Instr.indexAt, Instr.sureAddr, asIntOf, run_underlying hd, hb, hs', add_zero_addr]
  · exact h.elim
/-- A part of a value. -/
theorem part_run (hT : TOK P T) {E : Env} {t : Nat} {ti : TI} (ht : tiOf T t = some ti) {cs : List AV} {a : Array Value} (hv : VRL E cs a.toList) {o : Nat} {K : AV → Prop} (h : aload ti cs o K) :
    SilR P E (part t a o) K := by
  unfold aload at h
  cases hA : isAggD ti.d with
  | false =>
    rw [hA] at h
    obtain ⟨x, h1, h2⟩ := aget_some h
    obtain ⟨v, h3, h4⟩ := hv.get h1
    have h5 : a[o]? = some v := by simpa using h3
    exact SilR.of h2 h4 fun w => by simp [part, hT.isAgg ht, hA, h5]
  | true =>
    rw [hA] at h
    obtain ⟨ys, h1, h2, h3⟩ := acells_some h
    have hle : ti.sz ≤ (cs.drop o).length := by
      by_cases z : ti.sz = 0
      · omega
      · have h4 := h2 (ti.sz - 1) (by omega)
        have h5 : ys[ti.sz - 1]? = some ys[ti.sz - 1] := List.getElem?_eq_getElem (by omega)
        have h6 := (List.getElem?_eq_some_iff.mp (h4.trans h5)).1
        simp; omega
    have e : (cs.drop o).take ti.sz = ys := by
      apply List.ext_getElem?
      intro i
      by_cases hi : i < ti.sz
      · rw [List.getElem?_take, if_pos hi, List.getElem?_drop]; exact h2 i hi
      · rw [List.getElem?_eq_none (by simp; omega), List.getElem?_eq_none (by omega)]
    have hseg := (hv.vrp.drop o).take ti.sz hle
    rw [e] at hseg
    refine SilR.of h3 (v := .agg (a.extract o (o + ti.sz))) ⟨_, rfl, ?_⟩ fun w => by simp [part, hT.isAgg ht, hA, hT.sizeOf ht]
    rw [Array.toList_extract]
    simpa [List.extract_eq_take_drop] using hseg
theorem setCells_length : ∀ (us cs : List AV) (o : Nat), (setCells cs o us).length = cs.length
  | [], cs, o => rfl
  | u :: us, cs, o => by unfold setCells; rw [setCells_length us]; simp
theorem fold_vr {E : Env} : ∀ (us : List AV) (vs : List Value) (cs : List AV) (c : Array Value) (o k : Nat), VRL E us vs → VRL E cs c.toList → o + k + us.length ≤ cs.length →
    VRL E (setCells cs (o + k) us) ((vs.zipIdx k).foldl (fun cs (p : Value × Nat) => cs.setIfInBounds (o + p.2) p.1) c).toList
  | [], vs, cs, c, o, k, h, hc, _ => by cases h; exact hc
  | u :: us, _, cs, c, o, k, ⟨v, vs', h1, h2, h3⟩, hc, hl => by
    subst h1
    simp only [List.length_cons] at hl
    have hset : VRL E (cs.set (o + k) u) (c.setIfInBounds (o + k) v).toList := by
      rw [Array.toList_setIfInBounds]
      have := VRP.set (o + k) hc.vrp h2 (by omega)
      have h4 := this.take cs.length (by simp)
      rw [List.take_of_length_le (by simp)] at h4
      rw [List.take_of_length_le (by simp; have := hc.length; simp at this; omega)] at h4
      exact h4
    have := fold_vr us vs' (cs.set (o + k) u) (c.setIfInBounds (o + k) v) o (k + 1) h3 hset (by simp; omega)
    simpa [setCells, Nat.add_assoc] using this
/-- What is built. -/
theorem afill_sound {E : Env} {place place' : Nat → Option (Nat × Nat)} (hp : ∀ n x, place n = some x → place' n = some x) {K : List AV → Prop} : ∀ (ps : List (Nat × AV)) (qs : List (Nat × Value)) (cs : List AV) (c : Array Value),
    afill place K cs ps → VRL E cs c.toList → ps.map (·.1) = qs.map (·.1) → VRL E (ps.map (·.2)) (qs.map (·.2)) → ∃ ds d, K ds ∧ VRL E ds d.toList ∧ ds.length = cs.length ∧ Instr.fill place' c qs = some d
  | [], qs, cs, c, h, hc, h1, h2 => by
    cases qs with
    | nil => exact ⟨cs, c, h, hc, rfl, rfl⟩
    | cons q qs => simp at h1
  | (n, x) :: ps, qs, cs, c, h, hc, h1, h2 => by
    cases qs with
    | nil => simp at h1
    | cons q qs =>
      obtain ⟨m, v⟩ := q
      simp only [List.map_cons, List.cons.injEq] at h1
      obtain ⟨rfl, h1⟩ := h1
      obtain ⟨v', vs', e, h3, h4⟩ := h2
      simp only [List.map_cons, List.cons.injEq] at e
      obtain ⟨rfl, rfl⟩ := e
      unfold afill at h
      split at h
      · rename_i o z hpl
        obtain ⟨hb, h⟩ := acond_true h
        rw [alist_eq] at h
        simp only [Bool.and_eq_true] at hb
        have hb1 : x.cells.length = z := Nat.eq_of_beq_eq_true hb.2.1
        have hb2 : o + z ≤ cs.length := Nat.le_of_ble_eq_true hb.2.2
        have hcl := hc.length
        have hx : x ≠ .un := fun e => by rw [e] at hb; exact absurd hb.1 (by decide)
        · have hcells := h3.cells hx
          have hvl := hcells.length
          have hfold := fold_vr x.cells v.cells.toList cs c o 0 hcells hc (by omega)
          obtain ⟨ds, d, k1, k2, k3, k4⟩ := afill_sound hp ps qs (setCells cs o x.cells) _ h hfold h1 h4
          refine ⟨ds, d, k1, k2, by rw [k3, setCells_length], ?_⟩
          simp only [Instr.fill, hp _ _ hpl]
          have e1 : v.cells.size = z := by rw [← Array.length_toList, hvl, hb1]
          have e2 : ¬ (c.size < o + z) := by simp at hcl; omega
          simp only [e1, ne_eq, not_true_eq_false, gt_iff_lt, e2, decide_false, Bool.or_false, Bool.false_eq_true, if_false]
          rw [← k4]
          congr 1
          rw [← Array.foldl_toList, Array.toList_zipIdx]
      · exact h.elim
theorem mapM_run {α β : Type} (f : α → Sem β) (g : α → β) (w : World) : ∀ (xs : List α), (∀ x ∈ xs, (f x).run P w = .ok (g x) w) → (xs.mapM f).run P w = .ok (xs.map g) w
  | [], _ => rfl
  | x :: xs, h => by
    have h1 := h x (by simp)
    have h2 := mapM_run f g w xs (fun y hy => h y (by simp [hy]))
    simp only [List.mapM_cons, Sem.run_bind, h1, Result.andThen_ok, h2, List.map_cons]
    rfl
theorem amapM_run {α β : Type} (f : α → Sem β) (g : α → β) (w : World) (xs : Array α) (h : ∀ x ∈ xs.toList, (f x).run P w = .ok (g x) w) : (xs.mapM f).run P w = .ok (xs.map g) w := by
  rw [Array.mapM_eq_mapM_toList, Sem.run_map, mapM_run f g w xs.toList h]
  simp only [Result.andThen_ok]
  congr 1
  apply Array.ext'
  simp
theorem zero_kn (hT : TOK P T) {t : Nat} {ti : TI} (ht : tiOf T t = some ti) : ti.zero ≠ .un := by
  intro e
  have := hT t ti ht
  obtain ⟨i, z, hi1, hi2, hi3, hi4, _⟩ := hT.info ht
  unfold tiB at this
  simp only [hi1, hi4, e, zeroBB, zeroB, Bool.and_eq_true] at this
  simp at this
theorem build_sound (hT : TOK P T) {E : Env} {t : Nat} {ti : TI} (ht : tiOf T t = some ti) {ps : Array (Nat × Value)} {ns : List Nat} {vs : List AV} {K : AV → Prop} (hn : ns = ps.toList.map (·.1)) (hv : VRL E vs (ps.toList.map (·.2)))
    (h : match ti.d with
      | .st fs => afill (aplace fs (tiOf T)) (fun cs => K (.agg cs)) ti.zero.cells (ns.zip vs)
      | .arr _ e => tiK T e fun te => afill (fun n => some (n * te.sz, te.sz)) (fun cs => K (.agg cs)) ti.zero.cells (ns.zip vs)
      | _ => False) : SilR P E (Instr.build t ps) K := by
  obtain ⟨i, z, hi1, hi2, hi3, hi4, hi5, hi6⟩ := hT.info ht
  obtain ⟨d, hd, hdd⟩ := hT.desc ht
  have hlen := hv.length
  have hns : ns.length = vs.length := by rw [hn]; simp at hlen ⊢; omega
  have hc := (hi5 E).cells (zero_kn hT ht)
  have hm1 : (ns.zip vs).map (·.1) = ps.toList.map (·.1) := by rw [List.map_fst_zip (by omega), hn]
  have hm2 : (ns.zip vs).map (·.2) = vs := List.map_snd_zip (by omega)
  have hz : ∀ w, (Go.zeroValue t).run P w = .ok z w := fun w => by simp [Go.zeroValue, typeInfo, hi1, hi4]
  split at h
  · rename_i fs e
    rw [e] at hdd
    obtain ⟨gs, rfl, hfs⟩ := desc_st hdd
    have hall := hT.fields ht hd
    let g : Field → Nat × Nat := fun f => (f.offset, P.cellsOf f.type)
    have hrun : ∀ w, (gs.mapM (m := Sem) fun f => do pure (f.offset, ← Go.sizeOf f.type)).run P w = .ok (gs.map g) w := fun w =>
      amapM_run _ g w gs fun f hf => by
        obtain ⟨j, hj⟩ := Option.isSome_iff_exists.mp (hall f hf)
        simp [Go.sizeOf, typeInfo, hj, g, Program.cellsOf]
    have hp2 : ∀ n x, aplace fs (tiOf T) n = some x → (gs.map g)[n]? = some x := by
      intro n x hx
      unfold aplace at hx
      split at hx
      · rename_i o ft hn
        split at hx
        · rename_i tf hf
          cases hx
          rw [hfs, List.getElem?_map] at hn
          obtain ⟨f, hf1, hf2⟩ := Option.map_eq_some_iff.mp hn
          simp only [Prod.mk.injEq] at hf2
          obtain ⟨j, zz, hj1, hj2, _⟩ := hT.info hf
          rw [Array.getElem?_map, ← Array.getElem?_toList, hf1]
          simp only [Option.map_some, g, hf2.1, hf2.2, Program.cellsOf, hj1, hj2, Option.getD_some]
        · cases hx
      · cases hx
    obtain ⟨ds, e, k1, k2, k3, k4⟩ := afill_sound (place' := ((gs.map g)[·]?)) (fun n x hx => hp2 n x hx) (ns.zip vs) ps.toList ti.zero.cells z.cells h hc hm1 (by rw [hm2]; exact hv)
    refine SilR.of (y := .agg ds) (v := .agg e) k1 ⟨e, rfl, k2⟩ fun w => ?_
    simp only [Instr.build, Sem.run_bind, hz, run_underlying hd, hrun, Result.andThen_ok]
    simp only [k4]
    rfl
  · rename_i n e he
    rw [he] at hdd
    obtain rfl := desc_arr hdd
    obtain ⟨te, hte, h⟩ := tiK_some h
    obtain ⟨ds, e', k1, k2, k3, k4⟩ := afill_sound (place' := fun i => some (i * te.sz, te.sz)) (fun n x hx => hx) (ns.zip vs) ps.toList ti.zero.cells z.cells h hc hm1 (by rw [hm2]; exact hv)
    refine SilR.of (y := .agg ds) (v := .agg e') k1 ⟨e', rfl, k2⟩ fun w => ?_
    simp only [Instr.build, Sem.run_bind, hz, run_underlying hd, hT.sizeOf hte, Result.andThen_ok]
    simp only [k4]
    rfl
  · exact h.elim
end
end Go.AK
