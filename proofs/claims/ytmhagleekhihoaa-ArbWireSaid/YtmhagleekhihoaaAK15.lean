import Derived.Test.YtmhagleekhihoaaAK14
namespace Go.AK
open Go Go.RowKit
set_option linter.unusedVariables false
def frzφ (j : Nat) (cs : List AV) (i : Nat) : Sb := if Nat.beq i j then .val cs else .idx i
def frzH (j : Nat) (cs : List AV) (H : Heap) : Heap := (H.set j .dead).map (subB (frzφ j cs))
/-- A block is never written from here on: what reads it is a value. -/
theorem Rel.freeze {E0 E : Env} {w0 w : World} {H : Heap} (he : Ext E0 w0 E w) (h : Rel E H w) {j : Nat} {cs : List AV} (hj : H[j]? = some (.c cs)) :
    ∃ E', Ext E0 w0 E' w ∧ Rel E' (frzH j cs H) w ∧ SubOK E E' (frzφ j cs) ∧ E.le E' := by
  obtain ⟨g, f, c, t, e1, e2, e3⟩ := h.blk j cs hj
  have haj : alive H j := ⟨_, hj, by simp⟩
  have hjl : j < H.length := (List.getElem?_eq_some_iff.mp hj).1
  let E' : Env := ⟨E.ρ, fun g' => if g' = g then some (.cells c t (0, 0)) else E.Im g'⟩
  have hle : E.le E' := by
    refine ⟨fun _ _ h => h, fun g' o ho => ?_⟩
    show (if g' = g then _ else E.Im g') = some o
    by_cases e : g' = g
    · subst e; have := h.im _ _ ho; rw [e2] at this; rw [if_pos rfl]; exact this
    · rw [if_neg e]; exact ho
  have hsub : SubOK E E' (frzφ j cs) := by
    refine ⟨fun i k hk x hx => ?_, fun i ds hk g' f' q hx => ?_⟩
    · unfold frzφ at hk
      split at hk
      · cases hk
      · cases hk; exact hx
    · unfold frzφ at hk
      split at hk
      · rename_i hb
        cases hk
        have := Nat.eq_of_beq_eq_true hb
        subst this
        rw [e1] at hx
        simp only [Option.some.injEq, Prod.mk.injEq] at hx
        obtain ⟨rfl, rfl, rfl⟩ := hx
        exact ⟨c, t, (0, 0), by simp [E'], e3.mono hle⟩
      · cases hk
  have hal : ∀ k, alive (frzH j cs H) k → alive H k ∧ k ≠ j := by
    rintro k ⟨b, hb, hd⟩
    unfold frzH at hb
    rw [List.getElem?_map] at hb
    obtain ⟨b', h1, rfl⟩ := Option.map_eq_some_iff.mp hb
    have hd' := subB_dead hd
    by_cases e : j = k
    · subst e; rw [List.getElem?_set_self hjl] at h1; cases h1; exact absurd rfl hd'
    · rw [List.getElem?_set_ne e] at h1; exact ⟨⟨b', h1, hd'⟩, fun e' => e e'.symm⟩
  refine ⟨E', ⟨he.le.trans hle, he.new, ?_, he.os, he.tape, he.output, he.size, he.keep⟩, ⟨by simp [E', frzH, h.len], ?_, ?_, fun a b x x' ha hb => h.inj a b x x' (hal a ha).1 (hal b hb).1, h.lt, ?_, ?_⟩, hsub, hle⟩
  · intro g' o ho
    have ho' : (if g' = g then some (Obj.cells c t (0, 0)) else E.Im g') = some o := ho
    by_cases e : g' = g
    · subst e
      rcases he.img j _ e1 with h1 | h1
      · exact .inr (.inl h1)
      · exact .inr (.inr h1)
    · rw [if_neg e] at ho'; exact he.imn g' o ho'
  · intro k ds hk
    have hne := (hal k ⟨_, hk, by simp⟩).2
    unfold frzH at hk
    rw [List.getElem?_map, List.getElem?_set_ne (fun e => hne e.symm)] at hk
    obtain ⟨b, h1, h2⟩ := Option.map_eq_some_iff.mp hk
    cases b with
    | dead => cases h2
    | mp _ => cases h2
    | c ds' =>
      cases h2
      obtain ⟨g', f', c', t', k1, k2, k3⟩ := h.blk k ds' h1
      exact ⟨g', f', c', t', k1, k2, VRP.sub hsub hle.im _ _ k3⟩
  · intro k ds hk
    have hne := (hal k ⟨_, hk, by simp⟩).2
    unfold frzH at hk
    rw [List.getElem?_map, List.getElem?_set_ne (fun e => hne e.symm)] at hk
    obtain ⟨b, h1, h2⟩ := Option.map_eq_some_iff.mp hk
    cases b with
    | dead => cases h2
    | c _ => cases h2
    | mp ds' =>
      cases h2
      obtain ⟨g', f', q, es', kk, k1, k2, k3⟩ := h.mp k ds' h1
      exact ⟨g', f', q, es', kk, k1, k2, VRM.sub hsub hle.im _ _ k3⟩
  · intro g' o ho
    have ho' : (if g' = g then some (Obj.cells c t (0, 0)) else E.Im g') = some o := ho
    by_cases e : g' = g
    · subst e; rw [if_pos rfl] at ho'; rw [← ho']; exact e2
    · rw [if_neg e] at ho'; exact h.im g' o ho'
  · intro k x ha hx
    obtain ⟨a1, a2⟩ := hal k ha
    have hne : x.1 ≠ g := fun e => a2 (h.inj k j x _ a1 haj hx e1 e)
    show (if x.1 = g then _ else E.Im x.1) = none
    rw [if_neg hne]; exact h.imd k x a1 hx
mutual
/-- No part that is a place of a numbered block. -/
def flat : AV → Bool
  | .p (some _) => false
  | .sl (some _) _ _ _ => false
  | .m (some _) => false
  | .fn _ fs cap => flats fs && flats cap
  | .ifc _ x => flat x
  | .agg cs => flats cs
  | .tup vs => flats vs
  | .rp cs _ => flats cs
  | .rs cs _ _ _ => flats cs
  | _ => true
def flats : List AV → Bool
  | [] => true
  | x :: xs => flat x && flats xs
end
mutual
theorem VR.flat {E E' : Env} (him : ∀ g o, E.Im g = some o → E'.Im g = some o) : ∀ (x : AV) (v : Value), flat x = true → VR E x v → VR E' x v
  | .p (some (j, o)), v, hn, _ => by simp [AK.flat] at hn
  | .sl (some (j, o)) z n c, v, hn, _ => by simp [AK.flat] at hn
  | .m (some j), v, hn, _ => by simp [AK.flat] at hn
  | .fn f fs cap, v, hn, ⟨a, b, h1, h2, h3⟩ => by
    simp only [AK.flat, Bool.and_eq_true] at hn
    exact ⟨a, b, h1, VRL.flat him fs _ hn.1 h2, VRL.flat him cap _ hn.2 h3⟩
  | .ifc t x, v, hn, ⟨u, h1, h2⟩ => ⟨u, h1, VR.flat him x u (by simpa [AK.flat] using hn) h2⟩
  | .agg cs, v, hn, ⟨a, h1, h2⟩ => ⟨a, h1, VRL.flat him cs _ (by simpa [AK.flat] using hn) h2⟩
  | .tup cs, v, hn, ⟨a, h1, h2⟩ => ⟨a, h1, VRL.flat him cs _ (by simpa [AK.flat] using hn) h2⟩
  | .rp cs o, v, hn, ⟨g, f, c, t, fz, h1, h2, h3⟩ => ⟨g, f, c, t, fz, him _ _ h1, h2, VRP.flat him cs _ (by simpa [AK.flat] using hn) h3⟩
  | .rs cs o z n, v, hn, .inl h1 => .inl h1
  | .rs cs o z n, v, hn, .inr ⟨g, f, c, t, fz, cap, h1, h2, h3, h4⟩ => .inr ⟨g, f, c, t, fz, cap, him _ _ h1, h2, h3, VRP.flat him cs _ (by simpa [AK.flat] using hn) h4⟩
  | .un, _, _, _ => trivial
  | .b _, _, _, hv => hv
  | .i _ _, _, _, hv => hv
  | .s _, _, _, hv => hv
  | .p none, _, _, hv => hv
  | .sl none _ _ _, _, _, hv => hv
  | .nilf, _, _, hv => hv
  | .nili, _, _, hv => hv
  | .m none, _, _, hv => hv
theorem VRL.flat {E E' : Env} (him : ∀ g o, E.Im g = some o → E'.Im g = some o) : ∀ (xs : List AV) (vs : List Value), flats xs = true → VRL E xs vs → VRL E' xs vs
  | [], _, _, hv => hv
  | x :: xs, vs, hn, ⟨v, vs', h1, h2, h3⟩ => by
    simp only [flats, Bool.and_eq_true] at hn
    exact ⟨v, vs', h1, VR.flat him x v hn.1 h2, VRL.flat him xs vs' hn.2 h3⟩
theorem VRP.flat {E E' : Env} (him : ∀ g o, E.Im g = some o → E'.Im g = some o) : ∀ (xs : List AV) (vs : List Value), flats xs = true → VRP E xs vs → VRP E' xs vs
  | [], _, _, _ => trivial
  | x :: xs, vs, hn, ⟨v, vs', h1, h2, h3⟩ => by
    simp only [flats, Bool.and_eq_true] at hn
    exact ⟨v, vs', h1, VR.flat him x v hn.1 h2, VRP.flat him xs vs' hn.2 h3⟩
end
/-! A call within a greater heap: of its blocks those of 'sel' are the call's; those of 'lend' it reads alone. -/
def lendφ (H : Heap) : List Nat → Nat → Sb
  | [], _ => .bad
  | j :: js, i => if Nat.beq i j then (match H[j]? with
    | some (.c cs) => .val (subs (lendφ H js) cs)
    | _ => .bad) else lendφ H js i
def callφ (H : Heap) (sel lend : List Nat) (j : Nat) : Sb :=
  match posOf sel 0 j with
  | some k => .idx k
  | none => lendφ H lend j
def backφ (m : Nat) (sel : List Nat) (k : Nat) : Sb :=
  match sel[k]? with
  | some j => .idx j
  | none => .idx (m + (k - sel.length))
def backH (m : Nat) (sel : List Nat) (Hc : Heap) : List Nat → Heap → Heap
  | [], H => H ++ (Hc.drop sel.length).map (subB (backφ m sel))
  | j :: js, H => backH m sel Hc js (H.set j (subB (backφ m sel) (Hc.getD (match posOf sel 0 j with | some k => k | none => 0) .dead)))
def aliveB (H : Heap) (j : Nat) : Bool := match H[j]? with | some (.c _) => true | some (.mp _) => true | _ => false
def cellsB (H : Heap) (j : Nat) : Bool := match H[j]? with | some (.c _) => true | _ => false
/-- The conditions: numbers that stand once each, of blocks that are there. -/
def frameB (H : Heap) (sel lend : List Nat) : Bool := sel.all (aliveB H) && decide sel.Nodup && lend.all (fun j => cellsB H j && !sel.contains j)
def subR (φ : Nat → Sb) : ARes → ARes
  | .ret x => .ret (sub φ x)
  | .pan x => .pan (sub φ x)
def nroR : ARes → Bool
  | .ret x => nro x
  | .pan x => nro x
def nroH : Heap → Bool
  | [] => true
  | b :: H => nroB b && nroH H
theorem aliveB_alive {H : Heap} {j : Nat} (h : aliveB H j = true) : alive H j := by
  unfold aliveB at h
  split at h <;> first | exact ⟨_, by assumption, by simp⟩ | cases h
theorem nroH_get : ∀ {H : Heap} {j : Nat} {b : Blk}, nroH H = true → H[j]? = some b → nroB b = true
  | [], _, _, _, h => by simp at h
  | b :: H, 0, c, h, h1 => by simp [nroH] at h h1; subst h1; exact h.1
  | b :: H, j + 1, c, h, h1 => by simp [nroH] at h; exact nroH_get h.2 (by simpa using h1)
theorem posOf_mem : ∀ {xs : List Nat} {k j : Nat}, posOf xs k j = none → j ∉ xs
  | [], _, _, _, h => by cases h
  | x :: xs, k, j, h, hm => by
    unfold posOf at h
    split at h
    · cases h
    · rename_i hb
      rcases List.mem_cons.mp hm with rfl | hm
      · simp at hb
      · exact posOf_mem h hm
theorem backH_get {m : Nat} {sel : List Nat} {Hc : Heap} (hnd : sel.Nodup) : ∀ (js : List Nat) (H : Heap), H.length = m → (∀ j ∈ js, j ∈ sel ∧ j < m) →
    (backH m sel Hc js H).length = m + (Hc.length - sel.length) ∧
    (∀ (k : Nat) (b : Blk), (backH m sel Hc js H)[k]? = some b → (m ≤ k ∧ ∃ b', Hc[sel.length + (k - m)]? = some b' ∧ b = subB (backφ m sel) b') ∨ (k < m ∧ k ∉ js ∧ H[k]? = some b) ∨ (k < m ∧ k ∈ js ∧ ∃ i : Nat, sel[i]? = some k ∧ b = subB (backφ m sel) (Hc.getD i .dead)))
  | [], H, hl, _ => by
    refine ⟨by simp [backH, hl], fun k b hb => ?_⟩
    unfold backH at hb
    by_cases hk : k < m
    · rw [List.getElem?_append_left (by omega)] at hb
      exact .inr (.inl ⟨hk, by simp, hb⟩)
    · rw [List.getElem?_append_right (by omega), List.getElem?_map, List.getElem?_drop, hl] at hb
      obtain ⟨b', h1, h2⟩ := Option.map_eq_some_iff.mp hb
      exact .inl ⟨by omega, b', h1, h2.symm⟩
  | j :: js, H, hl, hm => by
    unfold backH
    obtain ⟨h1, h2⟩ := backH_get (m := m) (Hc := Hc) hnd js (H.set j (subB (backφ m sel) (Hc.getD (match posOf sel 0 j with | some k => k | none => 0) .dead))) (by simpa using hl) (fun i hi => hm i (by simp [hi]))
    refine ⟨h1, fun k b hb => ?_⟩
    obtain ⟨hj1, hj2⟩ := hm j (by simp)
    rcases h2 k b hb with h3 | ⟨h3, h4, h5⟩ | ⟨h3, h4, h5⟩
    · exact .inl h3
    · by_cases e : j = k
      · subst e
        rw [List.getElem?_set_self (by omega)] at h5
        cases hp : posOf sel 0 j with
        | none => exact absurd hj1 (posOf_mem hp)
        | some i =>
          rw [hp] at h5
          obtain ⟨i', e1, e2⟩ := posOf_some hp
          have : i = i' := by omega
          subst this
          exact .inr (.inr ⟨h3, by simp, i, e2, (Option.some.inj h5).symm⟩)
      · rw [List.getElem?_set_ne e] at h5
        exact .inr (.inl ⟨h3, by simp; exact ⟨fun e' => e e'.symm, h4⟩, h5⟩)
    · exact .inr (.inr ⟨h3, by simp [h4], h5⟩)
variable {P : Program}
/-- **A call, within a greater heap.** -/
theorem ACall.frame {f : Nat} {args : List AV} {H : Heap} {Kc K : ARes → Heap → Prop} (sel lend : List Nat) (hs : frameB H sel lend = true) {args' : List AV} {Hc : Heap} (ha : subs (callφ H sel lend) args = args') (hH : pick (callφ H sel lend) H sel = Hc) (h : ACall P f args' Hc Kc)
    (hk : ∀ r H2, Kc r H2 → (lend = [] ∨ (nroR r = true ∧ nroH H2 = true)) ∧ K (subR (backφ H.length sel) r) (backH H.length sel H2 sel H)) : ACall P f args H K := by
  subst ha
  subst hH
  refine ⟨h.1, fun E w vs hR hv => ?_⟩
  unfold frameB at hs
  simp only [Bool.and_eq_true, List.all_eq_true, decide_eq_true_eq] at hs
  obtain ⟨⟨hal, hnd⟩, hle⟩ := hs
  have hselA : ∀ j ∈ sel, alive H j := fun j hj => aliveB_alive (hal j hj)
  have hselL : ∀ j ∈ sel, j < H.length := fun j hj => (hselA j hj).lt
  have hlend : ∀ j ∈ lend, (∃ cs, H[j]? = some (.c cs)) ∧ j ∉ sel := fun j hj => by
    have := hle j hj
    constructor
    · have h1 := this.1
      unfold cellsB at h1
      split at h1
      · exact ⟨_, by assumption⟩
      · cases h1
    · intro hm
      have h2 := this.2
      simp [hm] at h2
  -- the callee's places
  let isL : Nat → Prop := fun g => ∃ j ∈ lend, ∃ x, E.ρ[j]? = some x ∧ x.1 = g
  let Ec : Env := ⟨sel.map fun j => E.ρ.getD j default, fun g => by classical exact if isL g then w.heap[g]? else E.Im g⟩
  have hEcIm : ∀ g, (isL g → Ec.Im g = w.heap[g]?) ∧ (¬ isL g → Ec.Im g = E.Im g) := fun g => ⟨fun hg => if_pos hg, fun hg => if_neg hg⟩
  have himle : ∀ g o, E.Im g = some o → Ec.Im g = some o := fun g o ho => by
    by_cases hg : isL g
    · rw [(hEcIm g).1 hg]; exact hR.im g o ho
    · rw [(hEcIm g).2 hg]; exact ho
  have hget : ∀ (k : Nat) (x : Nat × Nat × Nat), Ec.ρ[k]? = some x ↔ ∃ j : Nat, sel[k]? = some j ∧ E.ρ[j]? = some x := by
    intro k x
    simp only [Ec, List.getElem?_map]
    constructor
    · intro hx
      obtain ⟨j, h1, h2⟩ := Option.map_eq_some_iff.mp hx
      have hj : j < E.ρ.length := by rw [hR.len]; exact hselL j (List.mem_of_getElem? h1)
      refine ⟨j, h1, ?_⟩
      rw [List.getD_eq_getElem?_getD, List.getElem?_eq_getElem hj] at h2
      simp only [Option.getD_some] at h2
      rw [List.getElem?_eq_getElem hj, h2]
    · rintro ⟨j, h1, h2⟩
      rw [h1]; simp [h2]
  have hlnd : ∀ js : List Nat, (∀ i ∈ js, i ∈ lend ∧ ∃ cs, H[i]? = some (.c cs)) → SubOK E Ec (lendφ H js) := by
    intro js
    induction js with
    | nil => exact fun _ => ⟨fun j k hk => by simp [lendφ] at hk, fun j cs hk => by simp [lendφ] at hk⟩
    | cons i js ihj =>
      intro hjs
      have ihs := ihj fun i' hi' => hjs i' (by simp [hi'])
      refine ⟨fun j k hk x hx => ?_, fun j cs hk g f q hx => ?_⟩
      · unfold lendφ at hk
        split at hk
        · split at hk <;> cases hk
        · exact ihs.idx j k hk x hx
      · unfold lendφ at hk
        split at hk
        · rename_i hb
          have hji := Nat.eq_of_beq_eq_true hb
          subst hji
          obtain ⟨hil, ds, hds⟩ := hjs j (by simp)
          rw [hds] at hk
          cases hk
          obtain ⟨g', f', c, t, e1, e2, e3⟩ := hR.blk j ds hds
          rw [hx] at e1
          simp only [Option.some.injEq, Prod.mk.injEq] at e1
          obtain ⟨rfl, rfl, rfl⟩ := e1
          have hg : isL g := ⟨j, hil, _, hx, rfl⟩
          exact ⟨c, t, (0, 0), by rw [(hEcIm g).1 hg]; exact e2, VRP.sub ihs himle _ _ e3⟩
        · exact ihs.val j cs hk g f q hx
  have hsub : SubOK E Ec (callφ H sel lend) := by
    refine ⟨fun j k hk x hx => ?_, fun j cs hk g f q hx => ?_⟩
    · unfold callφ at hk
      split at hk
      · rename_i m hm
        cases hk
        obtain ⟨i, h1, h2⟩ := posOf_some hm
        have e : k = i := by omega
        subst e
        exact (hget _ _).mpr ⟨j, h2, hx⟩
      · exact (hlnd lend fun i hi => ⟨hi, (hlend i hi).1⟩).idx j k hk x hx
    · unfold callφ at hk
      split at hk
      · cases hk
      · exact (hlnd lend fun i hi => ⟨hi, (hlend i hi).1⟩).val j cs hk g f q hx
  have hpick : ∀ (k : Nat) (b : Blk), (pick (callφ H sel lend) H sel)[k]? = some b → ∃ j : Nat, sel[k]? = some j ∧ b = subB (callφ H sel lend) (H.getD j .dead) := fun k b hb => pick_get hb
  have hRc : Rel Ec (pick (callφ H sel lend) H sel) w := by
    refine ⟨by simp [Ec, pick_length], ?_, ?_, ?_, ?_, ?_, ?_⟩
    · intro k cs hk
      obtain ⟨j, h1, h2⟩ := hpick k _ hk
      have hd : H.getD j .dead ≠ .dead := fun e => by rw [e] at h2; cases h2
      have hj := getD_get rfl hd
      generalize H.getD j .dead = b at h2 hj
      cases b with
      | dead => cases h2
      | mp _ => cases h2
      | c ds =>
        cases h2
        obtain ⟨g, f, c, t, e1, e2, e3⟩ := hR.blk j ds hj
        exact ⟨g, f, c, t, (hget _ _).mpr ⟨j, h1, e1⟩, e2, VRP.sub hsub himle _ _ e3⟩
    · intro k es hk
      obtain ⟨j, h1, h2⟩ := hpick k _ hk
      have hd : H.getD j .dead ≠ .dead := fun e => by rw [e] at h2; cases h2
      have hj := getD_get rfl hd
      generalize H.getD j .dead = b at h2 hj
      cases b with
      | dead => cases h2
      | c _ => cases h2
      | mp ds =>
        cases h2
        obtain ⟨g, f, q, es', kk, e1, e2, e3⟩ := hR.mp j ds hj
        exact ⟨g, f, q, es', kk, (hget _ _).mpr ⟨j, h1, e1⟩, e2, VRM.sub hsub himle _ _ e3⟩
    · intro a b x x' _ _ hx hx' e
      obtain ⟨ja, a3, a4⟩ := (hget _ _).mp hx
      obtain ⟨jb, b3, b4⟩ := (hget _ _).mp hx'
      have := hR.inj ja jb x x' (hselA ja (List.mem_of_getElem? a3)) (hselA jb (List.mem_of_getElem? b3)) a4 b4 e
      subst this
      exact nodup_get hnd a3 b3
    · intro k x hx
      obtain ⟨j, _, h2⟩ := (hget k x).mp hx
      exact hR.lt j x h2
    · intro g o ho
      by_cases hg : isL g
      · rw [(hEcIm g).1 hg] at ho; exact ho
      · rw [(hEcIm g).2 hg] at ho; exact hR.im g o ho
    · intro k x _ hx
      obtain ⟨j, a3, a4⟩ := (hget _ _).mp hx
      have hjs := List.mem_of_getElem? a3
      have hnl : ¬ isL x.1 := by
        rintro ⟨i, hi, y, hy, e⟩
        obtain ⟨⟨cs, hcs⟩, hns⟩ := hlend i hi
        have := hR.inj i j y x ⟨_, hcs, by simp⟩ (hselA j hjs) hy a4 e
        subst this; exact hns hjs
      rw [(hEcIm _).2 hnl]
      exact hR.imd j x (hselA j hjs) a4
  have hvc := VRL.sub hsub himle _ _ hv
  refine (h.2 Ec w vs hRc hvc).mono fun e w' ⟨r, E2, H2, k1, k2, k3, k4⟩ => ?_
  obtain ⟨hnr, hK⟩ := hk r H2 k3
  -- the caller's places, behind it
  have hEcl : Ec.ρ.length = sel.length := by simp [Ec]
  have hE2l : sel.length ≤ E2.ρ.length := by
    by_cases h0 : sel.length = 0
    · omega
    · have h1 : Ec.ρ[sel.length - 1]? = some Ec.ρ[sel.length - 1] := List.getElem?_eq_getElem (by omega)
      have h2 := k1.le.pre _ _ h1
      have := (List.getElem?_eq_some_iff.mp h2).1
      omega
  let E' : Env := ⟨E.ρ ++ E2.ρ.drop sel.length, fun g => by classical exact if isL g then none else E2.Im g⟩
  have hE'Im : ∀ g, (isL g → E'.Im g = none) ∧ (¬ isL g → E'.Im g = E2.Im g) := fun g => ⟨fun hg => if_pos hg, fun hg => if_neg hg⟩
  have hold : ∀ (j : Nat) (x : Nat × Nat × Nat), E.ρ[j]? = some x → E'.ρ[j]? = some x := fun j x hx => by
    have := (List.getElem?_eq_some_iff.mp hx).1
    show (E.ρ ++ _)[j]? = _
    rw [List.getElem?_append_left this]; exact hx
  have hnew : ∀ (k : Nat) (x : Nat × Nat × Nat), sel.length ≤ k → E2.ρ[k]? = some x → E'.ρ[H.length + (k - sel.length)]? = some x := fun k x hk hx => by
    show (E.ρ ++ _)[_]? = _
    rw [List.getElem?_append_right (by rw [hR.len]; omega), List.getElem?_drop, hR.len]
    rw [show sel.length + (H.length + (k - sel.length) - H.length) = k from by omega]
    exact hx
  have hE' : ∀ (j : Nat) (x : Nat × Nat × Nat), E'.ρ[j]? = some x → (j < H.length ∧ E.ρ[j]? = some x) ∨ (H.length ≤ j ∧ E2.ρ[sel.length + (j - H.length)]? = some x) := by
    intro j x hx
    have hx' : (E.ρ ++ E2.ρ.drop sel.length)[j]? = some x := hx
    by_cases hj : j < E.ρ.length
    · rw [List.getElem?_append_left hj] at hx'; exact .inl ⟨by rw [← hR.len]; exact hj, hx'⟩
    · rw [List.getElem?_append_right (by omega), List.getElem?_drop, hR.len] at hx'
      exact .inr ⟨by rw [← hR.len]; omega, hx'⟩
  have hE2sel : ∀ (k : Nat) (x : Nat × Nat × Nat), k < sel.length → E2.ρ[k]? = some x → ∃ j : Nat, sel[k]? = some j ∧ E.ρ[j]? = some x := by
    intro k x hk hx
    have h1 : Ec.ρ[k]? = some Ec.ρ[k] := List.getElem?_eq_getElem (by omega)
    have h2 := k1.le.pre _ _ h1
    rw [hx] at h2
    cases h2
    exact (hget _ _).mp h1
  have hback : SubOK E2 E' (backφ H.length sel) := by
    refine ⟨fun k i hi x hx => ?_, fun k cs hi => ?_⟩
    · unfold backφ at hi
      split at hi
      · rename_i j hj
        cases hi
        have hk := (List.getElem?_eq_some_iff.mp hj).1
        obtain ⟨j', h1, h2⟩ := hE2sel k x hk hx
        rw [hj] at h1; cases h1
        exact hold _ _ h2
      · rename_i hj
        cases hi
        have hk : sel.length ≤ k := by
          rcases Nat.lt_or_ge k sel.length with h | h
          · rw [List.getElem?_eq_getElem h] at hj; cases hj
          · exact h
        exact hnew k x hk hx
    · unfold backφ at hi
      split at hi <;> cases hi
  have himg : ∀ (k : Nat) (x : Nat × Nat × Nat), E2.ρ[k]? = some x → w.heap.size ≤ x.1 ∨ ∃ (j : Nat) (y : Nat × Nat × Nat), j ∈ sel ∧ E.ρ[j]? = some y ∧ y.1 = x.1 := by
    intro k x hx
    rcases k1.img k x hx with h1 | ⟨j', x', h1, h2⟩
    · exact .inl h1
    · obtain ⟨j, h3, h4⟩ := (hget _ _).mp h1
      exact .inr ⟨j, x', List.mem_of_getElem? h3, h4, h2⟩
  have himE : ∀ g o, E2.Im g = some o → ¬ isL g → E.Im g = some o ∨ w.heap.size ≤ g ∨ ∃ (j : Nat) (y : Nat × Nat × Nat), j ∈ sel ∧ E.ρ[j]? = some y ∧ y.1 = g := by
    intro g o hg hl
    rcases k1.imn g o hg with h1 | h1 | ⟨j', x', h1, h2⟩
    · rw [(hEcIm g).2 hl] at h1; exact .inl h1
    · exact .inr (.inl h1)
    · obtain ⟨j, h3, h4⟩ := (hget _ _).mp h1
      exact .inr (.inr ⟨j, x', List.mem_of_getElem? h3, h4, h2⟩)
  have hnL : lend = [] → ∀ g, ¬ isL g := fun hl g ⟨j, hj, _⟩ => by rw [hl] at hj; cases hj
  have himB : lend = [] → ∀ g o, E2.Im g = some o → E'.Im g = some o := fun hl g o ho => by rw [(hE'Im g).2 (hnL hl g)]; exact ho
  have hcs : ∀ (k : Nat) cs vs, H2[k]? = some (.c cs) → VRP E2 cs vs → VRP E' (subs (backφ H.length sel) cs) vs := by
    intro k cs vs hk hv
    rcases hnr with hl | ⟨_, hn⟩
    · exact VRP.sub hback (himB hl) _ _ hv
    · exact VRP.subN hback _ _ (nroH_get hn hk) hv
  have hms : ∀ (k : Nat) cs vs, H2[k]? = some (.mp cs) → VRM E2 cs vs → VRM E' (subM (backφ H.length sel) cs) vs := by
    intro k cs vs hk hv
    rcases hnr with hl | ⟨_, hn⟩
    · exact VRM.sub hback (himB hl) _ _ hv
    · exact VRM.subN hback _ _ (nroH_get hn hk) hv
  obtain ⟨hBl, hBg⟩ := backH_get (m := H.length) (Hc := H2) hnd sel H rfl (fun j hj => ⟨hj, hselL j hj⟩)
  have hH2l : sel.length ≤ H2.length := by rw [← k2.len]; exact hE2l
  -- what stands at a number
  have hB : ∀ (k : Nat) (b : Blk), (backH H.length sel H2 sel H)[k]? = some b → b ≠ .dead →
      (k < H.length ∧ k ∉ sel ∧ H[k]? = some b) ∨ ∃ (i : Nat) (b' : Blk), H2[i]? = some b' ∧ b' ≠ .dead ∧ b = subB (backφ H.length sel) b' ∧ (∀ x, E2.ρ[i]? = some x → E'.ρ[k]? = some x) ∧ ((H.length ≤ k ∧ i = sel.length + (k - H.length)) ∨ (k < H.length ∧ sel[i]? = some k)) := by
    intro k b hb hd
    rcases hBg k b hb with ⟨h1, b', h2, h3⟩ | h1 | ⟨h1, _, i, h3, h4⟩
    · refine .inr ⟨_, b', h2, subB_dead (h3 ▸ hd), h3, fun x hx => ?_, .inl ⟨h1, rfl⟩⟩
      have := hnew _ x (by omega) hx
      rwa [show H.length + (sel.length + (k - H.length) - sel.length) = k from by omega] at this
    · exact .inl h1
    · have hd' := subB_dead (h4 ▸ hd)
      refine .inr ⟨i, _, getD_get rfl hd', hd', h4, fun x hx => ?_, .inr ⟨h1, h3⟩⟩
      obtain ⟨j, h5, h6⟩ := hE2sel i x (List.getElem?_eq_some_iff.mp h3).1 hx
      rw [h3] at h5; cases h5
      exact hold _ _ h6
  have hfarO : ∀ (k : Nat) (x : Nat × Nat × Nat), alive H k → k ∉ sel → E.ρ[k]? = some x → w'.heap[x.1]? = w.heap[x.1]? := by
    intro k x ha hns hx
    by_cases hl : isL x.1
    · have h1 : ∃ o, w.heap[x.1]? = some o := ⟨_, Array.getElem?_eq_getElem (hR.lt _ _ hx)⟩
      obtain ⟨o, ho⟩ := h1
      have h2 : Ec.Im x.1 = some o := by rw [(hEcIm _).1 hl]; exact ho
      rw [k2.im _ _ (k1.le.im _ _ h2), ho]
    · refine k1.keep _ (hR.lt _ _ hx) fun i y hy e => ?_
      obtain ⟨j, h3, h4⟩ := (hget _ _).mp hy
      have hjs := List.mem_of_getElem? h3
      have := hR.inj j k y x (hselA j hjs) ha h4 hx e
      subst this; exact hns hjs
  refine ⟨subR (backφ H.length sel) r, E', backH H.length sel H2 sel H, ?_, ?_, hK, ?_⟩
  · refine ⟨⟨hold, fun g o ho => ?_⟩, ?_, ?_, k1.os, k1.tape, k1.output, k1.size, ?_⟩
    · have hl : ¬ isL g := by
        rintro ⟨j, hj, x, hx, rfl⟩
        obtain ⟨⟨cs, hc⟩, _⟩ := hlend j hj
        have := hR.imd j x ⟨_, hc, by simp⟩ hx
        rw [this] at ho; cases ho
      rw [(hE'Im g).2 hl]
      exact k1.le.im _ _ (himle _ _ ho)
    · intro j x hj hx
      rcases hE' j x hx with ⟨h1, _⟩ | ⟨h1, h2⟩
      · rw [hR.len] at hj; omega
      · rcases himg _ x h2 with h3 | ⟨i, y, _, h4, h5⟩
        · exact .inl h3
        · exact .inr ⟨i, y, h4, h5⟩
    · intro g o ho
      by_cases hl : isL g
      · rw [(hE'Im g).1 hl] at ho; cases ho
      · rw [(hE'Im g).2 hl] at ho
        rcases himE g o ho hl with h1 | h1 | ⟨j, y, _, h2, h3⟩
        · exact .inl h1
        · exact .inr (.inl h1)
        · exact .inr (.inr ⟨j, y, h2, h3⟩)
    · intro g hg hn
      refine k1.keep g hg fun i y hy e => ?_
      obtain ⟨j, h3, h4⟩ := (hget _ _).mp hy
      exact hn j y h4 e
  · refine ⟨?_, ?_, ?_, ?_, ?_, ?_, ?_⟩
    · rw [hBl]; show (E.ρ ++ E2.ρ.drop sel.length).length = _
      rw [List.length_append, List.length_drop, hR.len, k2.len]
    · intro k cs hk
      rcases hB k _ hk (by simp) with ⟨h1, h2, h3⟩ | ⟨i, b', h1, _, h2, h3, _⟩
      · obtain ⟨g, f, c, t, e1, e2, e3⟩ := hR.blk k cs h3
        refine ⟨g, f, c, t, hold _ _ e1, (hfarO k _ ⟨_, h3, by simp⟩ h2 e1).trans e2, ?_⟩
        exact e3.mono ⟨hold, fun g o ho => by
          have hl : ¬ isL g := by
            rintro ⟨j, hj, x, hx, rfl⟩
            obtain ⟨⟨cs, hc⟩, _⟩ := hlend j hj
            have := hR.imd j x ⟨_, hc, by simp⟩ hx
            rw [this] at ho; cases ho
          rw [(hE'Im g).2 hl]
          exact k1.le.im _ _ (himle _ _ ho)⟩
      · cases b' with
        | dead => cases h2
        | mp _ => cases h2
        | c ds =>
          cases h2
          obtain ⟨g, f, c, t, e1, e2, e3⟩ := k2.blk i ds h1
          exact ⟨g, f, c, t, h3 _ e1, e2, hcs i ds _ h1 e3⟩
    · intro k es hk
      rcases hB k _ hk (by simp) with ⟨h1, h2, h3⟩ | ⟨i, b', h1, _, h2, h3, _⟩
      · obtain ⟨g, f, q, es', kk, e1, e2, e3⟩ := hR.mp k es h3
        refine ⟨g, f, q, es', kk, hold _ _ e1, (hfarO k _ ⟨_, h3, by simp⟩ h2 e1).trans e2, ?_⟩
        exact e3.mono ⟨hold, fun g o ho => by
          have hl : ¬ isL g := by
            rintro ⟨j, hj, x, hx, rfl⟩
            obtain ⟨⟨cs, hc⟩, _⟩ := hlend j hj
            have := hR.imd j x ⟨_, hc, by simp⟩ hx
            rw [this] at ho; cases ho
          rw [(hE'Im g).2 hl]
          exact k1.le.im _ _ (himle _ _ ho)⟩
      · cases b' with
        | dead => cases h2
        | c _ => cases h2
        | mp ds =>
          cases h2
          obtain ⟨g, f, q, es', kk, e1, e2, e3⟩ := k2.mp i ds h1
          exact ⟨g, f, q, es', kk, h3 _ e1, e2, hms i ds _ h1 e3⟩
    · rintro a b x x' ⟨ba, ha, hda⟩ ⟨bb, hb, hdb⟩ hx hx' e
      -- a number that is no call's against one that is
      have mix : ∀ (a b : Nat) (x x' : Nat × Nat × Nat) (bb : Blk), (a < H.length ∧ a ∉ sel ∧ alive H a) → E'.ρ[a]? = some x → E'.ρ[b]? = some x' → x.1 = x'.1 → (∀ i : Nat, (H.length ≤ b ∧ i = sel.length + (b - H.length)) ∨ (b < H.length ∧ sel[i]? = some b) → ∀ y, E2.ρ[i]? = some y → E'.ρ[b]? = some y → False) → ∀ i : Nat, ((H.length ≤ b ∧ i = sel.length + (b - H.length)) ∨ (b < H.length ∧ sel[i]? = some b)) → i < E2.ρ.length → (∀ y, E2.ρ[i]? = some y → E'.ρ[b]? = some y) → False := by
        intro a b x x' bb _ _ _ _ hno i hi hil h3
        exact hno i hi _ (List.getElem?_eq_getElem hil) (h3 _ (List.getElem?_eq_getElem hil))
      have other : ∀ (a b : Nat) (x x' : Nat × Nat × Nat), a < H.length → a ∉ sel → alive H a → E'.ρ[a]? = some x → ∀ i : Nat, E2.ρ[i]? = some x' → x.1 = x'.1 → False := by
        intro a b x x' h1 h2 h3 hx i hi e
        rcases hE' a x hx with ⟨_, hx0⟩ | ⟨h4, _⟩
        · rcases himg i x' hi with h5 | ⟨j, y, h5, h6, h7⟩
          · have := hR.lt _ _ hx0; omega
          · have := hR.inj a j x y h3 (hselA j h5) hx0 h6 (e.trans h7.symm)
            subst this; exact h2 h5
        · omega
      rcases hB a _ ha hda with ⟨a1, a2, a3⟩ | ⟨i, b1, a1, ad, a2, a3, a4⟩ <;> rcases hB b _ hb hdb with ⟨c1, c2, c3⟩ | ⟨i', b2, c1, cd, c2, c3, c4⟩
      · rcases hE' a x hx with ⟨_, hx0⟩ | ⟨h4, _⟩
        · rcases hE' b x' hx' with ⟨_, hx1⟩ | ⟨h4, _⟩
          · exact hR.inj a b x x' ⟨_, a3, hda⟩ ⟨_, c3, hdb⟩ hx0 hx1 e
          · omega
        · omega
      · have hil : i' < E2.ρ.length := by rw [k2.len]; exact (List.getElem?_eq_some_iff.mp c1).1
        have h5 := c3 _ (List.getElem?_eq_getElem hil)
        rw [hx'] at h5; cases h5
        exact (other a b x _ a1 a2 ⟨_, a3, hda⟩ hx i' (List.getElem?_eq_getElem hil) e).elim
      · have hil : i < E2.ρ.length := by rw [k2.len]; exact (List.getElem?_eq_some_iff.mp a1).1
        have h5 := a3 _ (List.getElem?_eq_getElem hil)
        rw [hx] at h5; cases h5
        exact (other b a x' _ c1 c2 ⟨_, c3, hdb⟩ hx' i (List.getElem?_eq_getElem hil) e.symm).elim
      · have hil : i < E2.ρ.length := by rw [k2.len]; exact (List.getElem?_eq_some_iff.mp a1).1
        have hil' : i' < E2.ρ.length := by rw [k2.len]; exact (List.getElem?_eq_some_iff.mp c1).1
        have h5 := a3 _ (List.getElem?_eq_getElem hil)
        rw [hx] at h5; cases h5
        have h6 := c3 _ (List.getElem?_eq_getElem hil')
        rw [hx'] at h6; cases h6
        have := k2.inj i i' _ _ ⟨b1, a1, ad⟩ ⟨b2, c1, cd⟩ (List.getElem?_eq_getElem hil) (List.getElem?_eq_getElem hil') e
        subst this
        rcases a4 with ⟨p1, p2⟩ | ⟨p1, p2⟩ <;> rcases c4 with ⟨q1, q2⟩ | ⟨q1, q2⟩
        · omega
        · have := (List.getElem?_eq_some_iff.mp q2).1; omega
        · have := (List.getElem?_eq_some_iff.mp p2).1; omega
        · rw [p2] at q2; exact Option.some.inj q2
    · intro k x hx
      rcases hE' k x hx with ⟨_, h1⟩ | ⟨_, h1⟩
      · exact Nat.lt_of_lt_of_le (hR.lt _ _ h1) k1.size
      · exact k2.lt _ _ h1
    · intro g o ho
      by_cases hl : isL g
      · rw [(hE'Im g).1 hl] at ho; cases ho
      · rw [(hE'Im g).2 hl] at ho; exact k2.im g o ho
    · rintro k x ⟨b, hb, hd⟩ hx
      by_cases hl : isL x.1
      · exact (hE'Im _).1 hl
      · rw [(hE'Im _).2 hl]
        rcases hB k _ hb hd with ⟨h1, h2, h3⟩ | ⟨i, b', h1, hd', h2, h3, _⟩
        · rcases hE' k x hx with ⟨_, hx0⟩ | ⟨h4, _⟩
          · cases hI : E2.Im x.1 with
            | none => rfl
            | some o =>
              rcases himE _ o hI hl with h5 | h5 | ⟨j, y, h5, h6, h7⟩
              · have := hR.imd k x ⟨_, h3, hd⟩ hx0; rw [this] at h5; cases h5
              · have := hR.lt _ _ hx0; omega
              · have := hR.inj k j x y ⟨_, h3, hd⟩ (hselA j h5) hx0 h6 h7.symm
                subst this; exact absurd h5 h2
          · omega
        · have hil : i < E2.ρ.length := by rw [k2.len]; exact (List.getElem?_eq_some_iff.mp h1).1
          have h5 := h3 _ (List.getElem?_eq_getElem hil)
          rw [hx] at h5; cases h5
          exact k2.imd i _ ⟨b', h1, hd'⟩ (List.getElem?_eq_getElem hil)
  · cases r with
    | ret x =>
      cases e with
      | returned v =>
        rcases hnr with hl | ⟨hn, _⟩
        · exact VR.sub hback (himB hl) _ _ k4
        · exact VR.subN hback _ _ hn k4
      | panicked c => exact k4.elim
      | outgrown => exact k4.elim
    | pan x =>
      cases e with
      | returned v => exact k4.elim
      | panicked c =>
        obtain ⟨v, rfl, k4⟩ := k4
        refine ⟨v, rfl, ?_⟩
        rcases hnr with hl | ⟨hn, _⟩
        · exact VR.sub hback (himB hl) _ _ k4
        · exact VR.subN hback _ _ hn k4
      | outgrown => exact k4.elim
end Go.AK
