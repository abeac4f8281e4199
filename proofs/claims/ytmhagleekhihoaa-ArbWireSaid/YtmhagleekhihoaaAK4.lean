import Derived.Test.YtmhagleekhihoaaAK3
namespace Go.AK
open Go Go.RowKit
set_option linter.unusedVariables false
theorem acond_true {t : Bool} {A : Prop} (h : acond t A False) : t = true ∧ A := by cases t <;> simp_all [acond]
theorem acond_false {t : Bool} {A : Prop} (h : acond t False A) : t = false ∧ A := by cases t <;> simp_all [acond]
theorem zeroB_vr {x : AV} {v : Value} (h : zeroB x v = true) (E : Env) : VR E x v := by
  unfold zeroB at h
  split at h <;> first | (simp at h; done) | skip
  · simp at h; obtain ⟨rfl, rfl⟩ := h; rfl
  · simp at h; subst h; rfl
  · rename_i x y
    have e : x = y := by
      cases x; cases y; rename_i a b; simp only [beq_iff_eq] at h; congr; exact Array.toList_inj.mp h
    subst e; rfl
  all_goals first | rfl | exact ⟨rfl, rfl, rfl⟩
theorem zerosB_vr (E : Env) : ∀ {xs : List AV} {vs : List Value}, zerosB xs vs = true → VRL E xs vs
  | [], [], _ => rfl
  | x :: xs, v :: vs, h => by simp only [zerosB, Bool.and_eq_true] at h; exact ⟨v, vs, rfl, zeroB_vr h.1 E, zerosB_vr E h.2⟩
  | [], _ :: _, h => by simp [zerosB] at h
  | _ :: _, [], h => by simp [zerosB] at h
theorem zeroBB_vr {x : AV} {v : Value} (h : zeroBB x v = true) (E : Env) : VR E x v := by
  unfold zeroBB at h
  split at h
  · exact ⟨_, rfl, zerosB_vr E h⟩
  · exact zeroB_vr h E
section
variable {P : Program} {T : TT}
theorem TOK.desc (hT : TOK P T) {t : Nat} {ti : TI} (h : tiOf T t = some ti) : ∃ u, P.underlying t = some u ∧ descB ti.d u = true := by
  have := hT t ti h
  unfold tiB at this
  simp only [Bool.and_eq_true] at this
  cases hu : P.underlying t with
  | none => rw [hu] at this; simp at this
  | some u => rw [hu] at this; exact ⟨u, rfl, (Bool.and_eq_true _ _ ▸ this.1 : _ ∧ _).1⟩
theorem TOK.fields (hT : TOK P T) {t : Nat} {ti : TI} (h : tiOf T t = some ti) {gs : Array Field} (hu : P.underlying t = some (.struct gs)) : ∀ f ∈ gs.toList, (P.info? f.type).isSome = true := by
  have := hT t ti h
  unfold tiB at this
  simp only [Bool.and_eq_true] at this
  have h1 := this.1
  simp only [hu, Bool.and_eq_true] at h1
  intro f hf
  exact List.all_eq_true.mp h1.2 f hf
theorem TOK.info (hT : TOK P T) {t : Nat} {ti : TI} (h : tiOf T t = some ti) :
    ∃ i z, P.info? t = some i ∧ i.size = ti.sz ∧ i.bytes = ti.by_ ∧ i.zero = some z ∧ (∀ E, VR E ti.zero z) ∧ z.cells.size = ti.sz := by
  have := hT t ti h
  unfold tiB at this
  simp only [Bool.and_eq_true] at this
  cases hi : P.info? t with
  | none => rw [hi] at this; simp at this
  | some i =>
    have h0 := this.2
    simp only [hi, Bool.and_eq_true] at h0
    obtain ⟨⟨h1, h2⟩, h3⟩ := h0
    cases hz : i.zero with
    | none => rw [hz] at h3; simp at h3
    | some z =>
      rw [hz] at h3
      simp only [Bool.and_eq_true, beq_iff_eq] at h1 h2 h3
      exact ⟨i, z, rfl, h1, h2, hz, zeroBB_vr h3.1, h3.2⟩
theorem desc_int {k : IntKind} {u : TypeDesc} (h : descB (.int k) u = true) : u = .int k := by cases u <;> simp_all [descB]
theorem desc_str {u : TypeDesc} (h : descB .str u = true) : u = .string := by cases u <;> simp_all [descB]
theorem desc_sl {e : Nat} {u : TypeDesc} (h : descB (.sl e) u = true) : u = .slice e := by cases u <;> simp_all [descB]
theorem desc_arr {n e : Nat} {u : TypeDesc} (h : descB (.arr n e) u = true) : u = .array n e := by cases u <;> simp_all [descB]
theorem desc_st {fs : List (Nat × Nat)} {u : TypeDesc} (h : descB (.st fs) u = true) : ∃ gs, u = .struct gs ∧ fs = gs.toList.map fun f => (f.offset, f.type) := by
  cases u <;> simp_all [descB]
theorem desc_agg {d : TD} {u : TypeDesc} (h : descB d u = true) : (match u with | .struct _ => true | .array _ _ => true | _ => false) = isAggD d := by
  cases d <;> cases u <;> first | rfl | cases h
theorem TOK.isAgg (hT : TOK P T) {t : Nat} {ti : TI} (h : tiOf T t = some ti) (w : World) : (isAgg t).run P w = .ok (isAggD ti.d) w := by
  obtain ⟨u, hu, hd⟩ := hT.desc h
  have := desc_agg hd
  simp only [Go.isAgg, Sem.run_bind, run_underlying hu, Result.andThen_ok]
  rw [← this]
  cases u <;> rfl
theorem TOK.sizeOf (hT : TOK P T) {t : Nat} {ti : TI} (h : tiOf T t = some ti) (w : World) : (Go.sizeOf t).run P w = .ok ti.sz w := by
  obtain ⟨i, z, h1, h2, _⟩ := hT.info h
  simp [Go.sizeOf, typeInfo, h1, h2]
theorem TOK.zeroValue (hT : TOK P T) {t : Nat} {ti : TI} (h : tiOf T t = some ti) (w : World) : ∃ z, (zeroValue t).run P w = .ok z w ∧ (∀ E, VR E ti.zero z) ∧ z.cells.size = ti.sz := by
  obtain ⟨i, z, h1, h2, h3, h4, h5, h6⟩ := hT.info h
  exact ⟨z, by simp [Go.zeroValue, typeInfo, h1, h4], h5, h6⟩
/-- The registers. -/
structure RR (nt : Nat) (E : Env) (r : Regs) (a : Act) : Prop where
  size : a.tmps.size = nt
  regs : ∀ t v, getR r t = some v → t < nt ∧ VR E v (a.tmps.getD t undef)
theorem ofConstZ_vr {v : Value} {x : AV} (h : ofConst0 v = some x) (E : Env) : VR E x v := by
  unfold ofConst0 at h
  split at h <;> first | (cases h; rfl) | (cases h; exact ⟨rfl, rfl, rfl⟩) | (cases h)
theorem ofConsts_vr (E : Env) : ∀ {vs : List Value} {xs : List AV}, ofConsts vs = some xs → VRL E xs vs
  | [], xs, h => by cases h; rfl
  | v :: vs, xs, h => by
    unfold ofConsts at h
    cases h1 : ofConst0 v with
    | none => rw [h1] at h; cases h
    | some x =>
      cases h2 : ofConsts vs with
      | none => rw [h1, h2] at h; cases h
      | some ys => rw [h1, h2] at h; cases h; exact ⟨v, vs, rfl, ofConstZ_vr h1 E, ofConsts_vr E h2⟩
theorem ofConst_vr {v : Value} {x : AV} (h : ofConst v = some x) (E : Env) : VR E x v := by
  unfold ofConst at h
  split at h
  · rename_i a
    cases h1 : ofConsts a.toList with
    | none => rw [h1] at h; cases h
    | some xs => rw [h1] at h; cases h; exact ⟨a, rfl, ofConsts_vr E h1⟩
  · exact ofConstZ_vr h E
theorem evalK_sound {nt : Nat} {E : Env} {r : Regs} {a : Act} (hr : RR nt E r a) {o : Operand} {K : AV → Prop} (h : evalK r o K) : ∃ x, VR E x (a.eval o) ∧ K x := by
  unfold evalK at h
  split at h
  · split at h
    · rename_i v hv; exact ⟨v, (hr.regs _ _ hv).2, h⟩
    · exact h.elim
  · split at h
    · rename_i v hv; exact ⟨v, ofConst_vr hv E, h⟩
    · exact h.elim
  · rename_i f; exact ⟨.fn (.func f) [] [], show VR E (.fn (.func f) [] []) (.func (.func f) #[] #[]) from ⟨#[], #[], rfl, rfl, rfl⟩, h⟩
  · exact h.elim
theorem evalsK_sound {nt : Nat} {E : Env} {r : Regs} {a : Act} (hr : RR nt E r a) : ∀ {os : List Operand} {K : List AV → Prop}, evalsK r os K → ∃ xs, VRL E xs (os.map a.eval) ∧ K xs
  | [], K, h => ⟨[], rfl, h⟩
  | o :: os, K, h => by
    obtain ⟨x, h1, h2⟩ := evalK_sound hr h
    obtain ⟨xs, h3, h4⟩ := evalsK_sound hr h2
    exact ⟨x :: xs, ⟨_, _, rfl, h1, h3⟩, h4⟩
theorem tiK_some {t : Nat} {K : TI → Prop} (h : tiK T t K) : ∃ ti, tiOf T t = some ti ∧ K ti := by
  unfold tiK at h
  split at h
  · exact ⟨_, by assumption, h⟩
  · exact h.elim
theorem aget_some {xs : List AV} {i : Nat} {K : AV → Prop} (h : aget xs i K) : ∃ x, xs[i]? = some x ∧ K x := by
  unfold aget at h
  split at h
  · exact ⟨_, by assumption, h⟩
  · exact h.elim
theorem ablk_some {H : Heap} {j : Nat} {K : List AV → Prop} (h : ablk H j K) : ∃ cs, H[j]? = some (.c cs) ∧ K cs := by
  unfold ablk at h
  split at h
  · exact ⟨_, by assumption, h⟩
  · exact h.elim
theorem acells_some {xs : List AV} : ∀ {n o : Nat} {K : List AV → Prop}, acells xs o n K → ∃ ys : List AV, ys.length = n ∧ (∀ i, i < n → xs[o + i]? = ys[i]?) ∧ K ys
  | 0, o, K, h => ⟨[], rfl, fun i hi => by omega, h⟩
  | n + 1, o, K, h => by
    obtain ⟨x, h1, h2⟩ := aget_some h
    obtain ⟨ys, h3, h4, h5⟩ := acells_some h2
    refine ⟨x :: ys, by simp [h3], fun i hi => ?_, h5⟩
    cases i with
    | zero => simpa using h1
    | succ i => rw [show o + (i + 1) = o + 1 + i from by omega]; simpa using h4 i (by omega)
theorem add_zero_addr (g o i : Nat) : (⟨g, o, none⟩ : Addr).add i = ⟨g, o + i, none⟩ := by
  unfold Addr.add
  split
  · rename_i h; subst h; rfl
  · rfl
theorem cell_of {w : World} {g : Nat} {c : Array Value} {t : TypeId} {fz : Nat × Nat} (h : w.heap[g]? = some (.cells c t fz)) (o : Nat) : w.cell? ⟨g, o, none⟩ = c[o]? := by
  simp [World.cell?, h]
/-- A variable is read. -/
theorem loadVar_run (hT : TOK P T) {E : Env} {t : Nat} {ti : TI} (ht : tiOf T t = some ti) {w : World} {g f o : Nat} {c : Array Value} {t' : TypeId} {fz : Nat × Nat} (hg : w.heap[g]? = some (.cells c t' fz)) {cs : List AV}
    (hv : VRP E cs (c.toList.drop f)) {K : AV → Prop} (h : aload ti cs o K) : ∃ x v, VR E x v ∧ K x ∧ ∀ w', w'.heap[g]? = some (.cells c t' fz) → (loadVar t ⟨g, f + o, none⟩).run P w' = .ok v w' := by
  unfold aload at h
  cases hA : isAggD ti.d with
  | false =>
    rw [hA] at h
    obtain ⟨x, h1, h2⟩ := aget_some h
    obtain ⟨v, h3, h4⟩ := hv.get h1
    rw [List.getElem?_drop] at h3
    refine ⟨x, v, h4, h2, fun w' hg' => ?_⟩
    have hc : w'.cell? ⟨g, f + o, none⟩ = some v := by rw [cell_of hg']; simpa using h3
    simp [loadVar, hT.isAgg ht, hA, run_load, hc]
  | true =>
    rw [hA] at h
    obtain ⟨ys, h1, h2, h3⟩ := acells_some h
    have hl : ∀ i, i < ti.sz → ∃ v, (c.toList.drop f)[o + i]? = some v ∧ ∃ y, ys[i]? = some y ∧ VR E y v := fun i hi => by
      have hy : ys[i]? = some ys[i] := List.getElem?_eq_getElem (by omega)
      obtain ⟨v, h4, h5⟩ := hv.get ((h2 i hi).trans hy)
      exact ⟨v, h4, _, hy, h5⟩
    have hseg : VRL E ys (((c.toList.drop f).drop o).take ti.sz) := by
      have := hv.drop o
      have hle : ti.sz ≤ (cs.drop o).length := by
        by_cases z : ti.sz = 0
        · omega
        · have h4 := h2 (ti.sz - 1) (by omega)
          have h5 : ys[ti.sz - 1]? = some ys[ti.sz - 1] := List.getElem?_eq_getElem (by omega)
          have h6 := (List.getElem?_eq_some_iff.mp (h4.trans h5)).1
          simp; omega
      have e : (cs.drop o).take ti.sz = ys := by
        apply List.ext_getElem?
        intro i
        by_cases hi : i < ti.sz
        · rw [List.getElem?_take, if_pos hi, List.getElem?_drop]; exact h2 i hi
        · rw [List.getElem?_eq_none (by simp; omega), List.getElem?_eq_none (by omega)]
      have := this.take ti.sz hle
      rwa [e] at this
    refine ⟨.agg ys, .agg (((c.toList.drop f).drop o).take ti.sz).toArray, ⟨_, rfl, by simpa using hseg⟩, h3, fun w' hg' => ?_⟩
    have hlen : (((c.toList.drop f).drop o).take ti.sz).length = ti.sz := by rw [hseg.length, h1]
    have hrun := run_loadCells_list (P := P) w' ⟨g, f + o, none⟩ (((c.toList.drop f).drop o).take ti.sz) (fun j v hj => by
      rw [add_zero_addr, cell_of hg']
      rw [List.getElem?_take] at hj
      split at hj
      · rw [List.getElem?_drop, List.getElem?_drop] at hj
        rw [← Array.getElem?_toList, show f + o + j = f + (o + j) from by omega]
        exact hj
      · cases hj)
    rw [hlen] at hrun
    simp [loadVar, hT.isAgg ht, hA, hT.sizeOf ht, hrun]
theorem setCells_eq : ∀ (us cs : List AV) (o : Nat), o + us.length ≤ cs.length → setCells cs o us = cs.take o ++ us ++ cs.drop (o + us.length)
  | [], cs, o, _ => by simp [setCells]
  | u :: us, cs, o, h => by
    simp only [List.length_cons] at h
    unfold setCells
    rw [setCells_eq us (cs.set o u) (o + 1) (by simp; omega)]
    have e1 : (cs.set o u).take (o + 1) = cs.take o ++ [u] := by
      rw [List.take_add_one]
      simp [List.take_set, List.getElem?_set_self (show o < cs.length by omega)]
      rw [List.set_eq_of_length_le (by simp; omega)]
    have e2 : (cs.set o u).drop (o + 1 + us.length) = cs.drop (o + 1 + us.length) := by
      rw [List.drop_set]; rw [if_pos (by omega)]
    rw [e1, e2]
    simp [Nat.add_assoc, Nat.add_comm 1]
theorem VRL.appendP {E : Env} : ∀ {xs ys : List AV} {vs ws : List Value}, VRL E xs vs → VRP E ys ws → VRP E (xs ++ ys) (vs ++ ws)
  | [], _, _, _, h, k => by cases h; simpa using k
  | x :: xs, _, _, _, ⟨v, vs', h1, h2, h3⟩, k => by subst h1; exact ⟨v, _, rfl, h2, VRL.appendP h3 k⟩
theorem VRP.splice {E : Env} {cs us : List AV} {c : Array Value} {vs : List Value} {f o : Nat} (hv : VRP E cs (c.toList.drop f)) (hu : VRL E us vs) (hfit : o + us.length ≤ cs.length) :
    VRP E (setCells cs o us) ((c.toList.take (f + o) ++ vs ++ c.toList.drop (f + o + vs.length)).drop f) := by
  have hlen := hv.length
  have hl := hu.length
  rw [setCells_eq us cs o hfit]
  have hcl : f + cs.length ≤ c.toList.length ∨ cs.length = 0 := by simp only [List.length_drop] at hlen; omega
  have e : (c.toList.take (f + o) ++ vs ++ c.toList.drop (f + o + vs.length)).drop f = (c.toList.drop f).take o ++ vs ++ (c.toList.drop f).drop (o + us.length) := by
    by_cases hc : f + o ≤ c.toList.length
    · rw [List.append_assoc, List.drop_append_of_le_length (by simp at hc ⊢; omega), List.drop_take, show f + o - f = o from by omega, List.drop_drop, hl, ← List.append_assoc, Nat.add_assoc]
    · have h0 : cs.length = 0 := by omega
      have ho : o = 0 := by omega
      have hus : us = [] := List.eq_nil_of_length_eq_zero (by omega)
      subst hus; cases hu; subst ho
      have hd : c.toList.drop f = [] := List.drop_eq_nil_of_le (by omega)
      simp [hd]
  rw [e]
  exact ((hv.take o (by omega)).append hu).appendP (hv.drop _)
theorem ones_all : ∀ {xs : List AV}, ones xs = true → ∀ x ∈ xs, x.one = true
  | [], _, x, hx => by cases hx
  | y :: xs, h, x, hx => by
    simp only [ones, Bool.and_eq_true] at h
    rcases List.mem_cons.mp hx with rfl | hx
    · exact h.1
    · exact ones_all h.2 x hx
theorem VRL.one {E : Env} : ∀ {xs : List AV} {vs : List Value}, VRL E xs vs → ones xs = true → ∀ v ∈ vs, v.oneCell' = true
  | [], _, h, _, v, hv => by cases h; cases hv
  | x :: xs, _, ⟨u, us, h1, h2, h3⟩, ho, v, hv => by
    subst h1
    simp only [ones, Bool.and_eq_true] at ho
    rcases List.mem_cons.mp hv with rfl | hv
    · exact AV.one_cell h2 ho.1
    · exact VRL.one h3 ho.2 v hv
/-- A row of cells is written. -/
theorem store_run {E : Env} {H : Heap} {w : World} (hR : Rel E H w) {j o g f : Nat} {cs us : List AV} {c : Array Value} {t : TypeId} (hj : H[j]? = some (.c cs)) (hρ : E.ρ[j]? = some (g, f, c.size))
    (hg : w.heap[g]? = some (.cells c t (0, 0))) (hv : VRP E cs (c.toList.drop f)) {vs : List Value} (hu : VRL E us vs) (ho : ones us = true) (hfit : o + us.length ≤ cs.length) :
    ∃ w', (storeCells ⟨g, f + o, none⟩ vs).run P w = .ok () w' ∧ Rel E (H.set j (.c (setCells cs o us))) w' ∧ Ext E w E w' := by
  have hlen := hv.length
  have hl := hu.length
  by_cases hf : f + o + vs.length ≤ c.size
  · have hrun := run_storeCells_at P g (f + o) t vs 0 c w hg (by simpa using hf) (hu.one ho)
    simp only [Nat.add_zero] at hrun
    have := hR.setRow (cs' := setCells cs o us) (c' := (c.toList.take (f + o) ++ vs ++ c.toList.drop (f + o + vs.length)).toArray) hj hρ hg (by simp; omega) (by simpa using hv.splice hu hfit)
    exact ⟨_, hrun, this.1, this.2⟩
  · have hus : us.length = 0 := by simp at hlen; omega
    have : us = [] := List.eq_nil_of_length_eq_zero hus
    subst this; cases hu
    refine ⟨w, rfl, ?_, Ext.refl _ _⟩
    have e : setCells cs o [] = cs := rfl
    rw [e]
    have e2 : H.set j (.c cs) = H := by
      apply List.ext_getElem?
      intro i
      by_cases hi : j = i
      · subst hi; rw [List.getElem?_set_self (List.getElem?_eq_some_iff.mp hj).1, hj]
      · rw [List.getElem?_set_ne hi]
    rw [e2]; exact hR
end
end Go.AK
