import Derived.Test.YtmhagleekhihoaaAK13
namespace Go.AK
open Go Go.RowKit
set_option linter.unusedVariables false
/-- What becomes of a block's number. -/
inductive Sb where
  | bad
  | idx (k : Nat)
  | val (cs : List AV)
mutual
def sub (φ : Nat → Sb) : AV → AV
  | .p (some (j, o)) => match φ j with
    | .bad => .un
    | .idx k => .p (some (k, o))
    | .val cs => .rp cs o
  | .sl (some (j, o)) z n c => match φ j with
    | .bad => .un
    | .idx k => .sl (some (k, o)) z n c
    | .val cs => .rs cs o z n
  | .m (some j) => match φ j with
    | .idx k => .m (some k)
    | _ => .un
  | .fn f fs cap => .fn f (subs φ fs) (subs φ cap)
  | .ifc t x => .ifc t (sub φ x)
  | .agg cs => .agg (subs φ cs)
  | .tup vs => .tup (subs φ vs)
  | .rp cs o => .rp (subs φ cs) o
  | .rs cs o z n => .rs (subs φ cs) o z n
  | .un => .un
  | .b x => .b x
  | .i k n => .i k n
  | .s x => .s x
  | .p none => .p none
  | .sl none z n c => .sl none z n c
  | .nilf => .nilf
  | .nili => .nili
  | .m none => .m none
def subs (φ : Nat → Sb) : List AV → List AV
  | [] => []
  | x :: xs => sub φ x :: subs φ xs
end
mutual
/-- No part that lies in memory which is never written. -/
def nro : AV → Bool
  | .rp _ _ => false
  | .rs _ _ _ _ => false
  | .fn _ fs cap => nros fs && nros cap
  | .ifc _ x => nro x
  | .agg cs => nros cs
  | .tup vs => nros vs
  | _ => true
def nros : List AV → Bool
  | [] => true
  | x :: xs => nro x && nros xs
end
structure SubOK (E E' : Env) (φ : Nat → Sb) : Prop where
  idx : ∀ j k, φ j = .idx k → ∀ x : Nat × Nat × Nat, E.ρ[j]? = some x → E'.ρ[k]? = some x
  val : ∀ j cs, φ j = .val cs → ∀ g f q, E.ρ[j]? = some (g, f, q) → ∃ c t fz, E'.Im g = some (.cells c t fz) ∧ VRP E' cs (c.toList.drop f)
mutual
theorem VR.sub {E E' : Env} {φ : Nat → Sb} (h : SubOK E E' φ) (him : ∀ g o, E.Im g = some o → E'.Im g = some o) : ∀ (x : AV) (v : Value), VR E x v → VR E' (sub φ x) v
  | .p (some (j, o)), v, ⟨g, f, q, h1, h2⟩ => by
    unfold AK.sub
    split
    · trivial
    · rename_i k hk; exact ⟨g, f, q, h.idx j k hk _ h1, h2⟩
    · rename_i cs hk; obtain ⟨c, t, fz, k1, k2⟩ := h.val j cs hk g f q h1; exact ⟨g, f, c, t, fz, k1, h2, k2⟩
  | .sl (some (j, o)) z n c, v, ⟨g, f, q, o', h1, h2, h3, h4⟩ => by
    unfold AK.sub
    split
    · trivial
    · rename_i k hk; exact ⟨g, f, q, o', h.idx j k hk _ h1, h2, h3, h4⟩
    · rename_i cs hk
      obtain ⟨c', t, fz, k1, k2⟩ := h.val j cs hk g f q h1
      rcases h4 with ⟨rfl, _⟩ | rfl
      · exact .inr ⟨g, f, c', t, fz, c, k1, h2, h3, k2⟩
      · have : n = 0 := by omega
        subst this
        exact .inl ⟨rfl, _, _, h2⟩
  | .m (some j), v, ⟨g, f, q, h1, h2⟩ => by
    unfold AK.sub
    split
    · rename_i k hk; exact ⟨g, f, q, h.idx j k hk _ h1, h2⟩
    · trivial
  | .fn f fs cap, v, ⟨a, b, h1, h2, h3⟩ => by unfold AK.sub; exact ⟨a, b, h1, VRL.sub h him fs _ h2, VRL.sub h him cap _ h3⟩
  | .ifc t x, v, ⟨u, h1, h2⟩ => by unfold AK.sub; exact ⟨u, h1, VR.sub h him x u h2⟩
  | .agg cs, v, ⟨a, h1, h2⟩ => by unfold AK.sub; exact ⟨a, h1, VRL.sub h him cs _ h2⟩
  | .tup cs, v, ⟨a, h1, h2⟩ => by unfold AK.sub; exact ⟨a, h1, VRL.sub h him cs _ h2⟩
  | .rp cs o, v, ⟨g, f, c, t, fz, h1, h2, h3⟩ => by unfold AK.sub; exact ⟨g, f, c, t, fz, him _ _ h1, h2, VRP.sub h him cs _ h3⟩
  | .rs cs o z n, v, .inl h1 => by unfold AK.sub; exact .inl h1
  | .rs cs o z n, v, .inr ⟨g, f, c, t, fz, cap, h1, h2, h3, h4⟩ => by unfold AK.sub; exact .inr ⟨g, f, c, t, fz, cap, him _ _ h1, h2, h3, VRP.sub h him cs _ h4⟩
  | .un, _, _ => by unfold AK.sub; trivial
  | .b _, _, hv => by unfold AK.sub; exact hv
  | .i _ _, _, hv => by unfold AK.sub; exact hv
  | .s _, _, hv => by unfold AK.sub; exact hv
  | .p none, _, hv => by unfold AK.sub; exact hv
  | .sl none _ _ _, _, hv => by unfold AK.sub; exact hv
  | .nilf, _, hv => by unfold AK.sub; exact hv
  | .nili, _, hv => by unfold AK.sub; exact hv
  | .m none, _, hv => by unfold AK.sub; exact hv
theorem VRL.sub {E E' : Env} {φ : Nat → Sb} (h : SubOK E E' φ) (him : ∀ g o, E.Im g = some o → E'.Im g = some o) : ∀ (xs : List AV) (vs : List Value), VRL E xs vs → VRL E' (subs φ xs) vs
  | [], _, hv => hv
  | x :: xs, vs, ⟨v, vs', h1, h2, h3⟩ => by unfold subs; exact ⟨v, vs', h1, VR.sub h him x v h2, VRL.sub h him xs vs' h3⟩
theorem VRP.sub {E E' : Env} {φ : Nat → Sb} (h : SubOK E E' φ) (him : ∀ g o, E.Im g = some o → E'.Im g = some o) : ∀ (xs : List AV) (vs : List Value), VRP E xs vs → VRP E' (subs φ xs) vs
  | [], _, _ => trivial
  | x :: xs, vs, ⟨v, vs', h1, h2, h3⟩ => by unfold subs; exact ⟨v, vs', h1, VR.sub h him x v h2, VRP.sub h him xs vs' h3⟩
end
mutual
theorem VR.subN {E E' : Env} {φ : Nat → Sb} (h : SubOK E E' φ) : ∀ (x : AV) (v : Value), nro x = true → VR E x v → VR E' (sub φ x) v
  | .p (some (j, o)), v, _, ⟨g, f, q, h1, h2⟩ => by
    unfold AK.sub
    split
    · trivial
    · rename_i k hk; exact ⟨g, f, q, h.idx j k hk _ h1, h2⟩
    · rename_i cs hk; obtain ⟨c, t, fz, k1, k2⟩ := h.val j cs hk g f q h1; exact ⟨g, f, c, t, fz, k1, h2, k2⟩
  | .sl (some (j, o)) z n c, v, _, ⟨g, f, q, o', h1, h2, h3, h4⟩ => by
    unfold AK.sub
    split
    · trivial
    · rename_i k hk; exact ⟨g, f, q, o', h.idx j k hk _ h1, h2, h3, h4⟩
    · rename_i cs hk
      obtain ⟨c', t, fz, k1, k2⟩ := h.val j cs hk g f q h1
      rcases h4 with ⟨rfl, _⟩ | rfl
      · exact .inr ⟨g, f, c', t, fz, c, k1, h2, h3, k2⟩
      · have : n = 0 := by omega
        subst this
        exact .inl ⟨rfl, _, _, h2⟩
  | .m (some j), v, _, ⟨g, f, q, h1, h2⟩ => by
    unfold AK.sub
    split
    · rename_i k hk; exact ⟨g, f, q, h.idx j k hk _ h1, h2⟩
    · trivial
  | .fn f fs cap, v, hn, ⟨a, b, h1, h2, h3⟩ => by
    simp only [nro, Bool.and_eq_true] at hn
    unfold AK.sub; exact ⟨a, b, h1, VRL.subN h fs _ hn.1 h2, VRL.subN h cap _ hn.2 h3⟩
  | .ifc t x, v, hn, ⟨u, h1, h2⟩ => by unfold AK.sub; exact ⟨u, h1, VR.subN h x u (by simpa [nro] using hn) h2⟩
  | .agg cs, v, hn, ⟨a, h1, h2⟩ => by unfold AK.sub; exact ⟨a, h1, VRL.subN h cs _ (by simpa [nro] using hn) h2⟩
  | .tup cs, v, hn, ⟨a, h1, h2⟩ => by unfold AK.sub; exact ⟨a, h1, VRL.subN h cs _ (by simpa [nro] using hn) h2⟩
  | .rp cs o, v, hn, _ => by simp [nro] at hn
  | .rs cs o z n, v, hn, _ => by simp [nro] at hn
  | .un, _, _, _ => by unfold AK.sub; trivial
  | .b _, _, _, hv => by unfold AK.sub; exact hv
  | .i _ _, _, _, hv => by unfold AK.sub; exact hv
  | .s _, _, _, hv => by unfold AK.sub; exact hv
  | .p none, _, _, hv => by unfold AK.sub; exact hv
  | .sl none _ _ _, _, _, hv => by unfold AK.sub; exact hv
  | .nilf, _, _, hv => by unfold AK.sub; exact hv
  | .nili, _, _, hv => by unfold AK.sub; exact hv
  | .m none, _, _, hv => by unfold AK.sub; exact hv
theorem VRL.subN {E E' : Env} {φ : Nat → Sb} (h : SubOK E E' φ) : ∀ (xs : List AV) (vs : List Value), nros xs = true → VRL E xs vs → VRL E' (subs φ xs) vs
  | [], _, _, hv => hv
  | x :: xs, vs, hn, ⟨v, vs', h1, h2, h3⟩ => by
    simp only [nros, Bool.and_eq_true] at hn
    unfold subs; exact ⟨v, vs', h1, VR.subN h x v hn.1 h2, VRL.subN h xs vs' hn.2 h3⟩
end
theorem VRP.subN {E E' : Env} {φ : Nat → Sb} (h : SubOK E E' φ) : ∀ (xs : List AV) (vs : List Value), nros xs = true → VRP E xs vs → VRP E' (subs φ xs) vs
  | [], _, _, _ => trivial
  | x :: xs, vs, hn, ⟨v, vs', h1, h2, h3⟩ => by
    simp only [nros, Bool.and_eq_true] at hn
    unfold subs; exact ⟨v, vs', h1, VR.subN h x v hn.1 h2, VRP.subN h xs vs' hn.2 h3⟩
def subM (φ : Nat → Sb) : List (AV × AV) → List (AV × AV)
  | [] => []
  | (k, x) :: es => (sub φ k, sub φ x) :: subM φ es
def nroM : List (AV × AV) → Bool
  | [] => true
  | (k, x) :: es => nro k && nro x && nroM es
def subB (φ : Nat → Sb) : Blk → Blk
  | .dead => .dead
  | .c cs => .c (subs φ cs)
  | .mp es => .mp (subM φ es)
def nroB : Blk → Bool
  | .dead => true
  | .c cs => nros cs
  | .mp es => nroM es
theorem VRM.sub {E E' : Env} {φ : Nat → Sb} (h : SubOK E E' φ) (him : ∀ g o, E.Im g = some o → E'.Im g = some o) : ∀ (xs : List (AV × AV)) (vs : List MapEntry), VRM E xs vs → VRM E' (subM φ xs) vs
  | [], _, hv => hv
  | (k, x) :: xs, es, ⟨e, es', h1, h2, h3, h4⟩ => ⟨e, es', h1, h2.sub h him, h3.sub h him, VRM.sub h him xs es' h4⟩
theorem VRM.subN {E E' : Env} {φ : Nat → Sb} (h : SubOK E E' φ) : ∀ (xs : List (AV × AV)) (vs : List MapEntry), nroM xs = true → VRM E xs vs → VRM E' (subM φ xs) vs
  | [], _, _, hv => hv
  | (k, x) :: xs, es, hn, ⟨e, es', h1, h2, h3, h4⟩ => by
    simp only [nroM, Bool.and_eq_true] at hn
    exact ⟨e, es', h1, VR.subN h _ _ hn.1.1 h2, VR.subN h _ _ hn.1.2 h3, VRM.subN h xs es' hn.2 h4⟩
theorem subB_dead {φ : Nat → Sb} {b : Blk} (h : subB φ b ≠ .dead) : b ≠ .dead := fun e => by subst e; exact h rfl
theorem Ext.img {E0 E : Env} {w0 w : World} (h : Ext E0 w0 E w) (j : Nat) (x : Nat × Nat × Nat) (hx : E.ρ[j]? = some x) : w0.heap.size ≤ x.1 ∨ ∃ (j' : Nat) (x' : Nat × Nat × Nat), E0.ρ[j']? = some x' ∧ x'.1 = x.1 := by
  by_cases hj : E0.ρ.length ≤ j
  · exact h.new j x hj hx
  · have hl : j < E0.ρ.length := by omega
    have e0 : E0.ρ[j]? = some E0.ρ[j] := List.getElem?_eq_getElem hl
    have := h.le.pre j _ e0
    rw [hx] at this
    cases this
    exact .inr ⟨j, _, e0, rfl⟩
def posOf : List Nat → Nat → Nat → Option Nat
  | [], _, _ => none
  | x :: xs, k, j => if Nat.beq x j then some k else posOf xs (k + 1) j
theorem posOf_some : ∀ {xs : List Nat} {k j m : Nat}, posOf xs k j = some m → ∃ i, m = k + i ∧ xs[i]? = some j
  | [], _, _, _, h => by cases h
  | x :: xs, k, j, m, h => by
    unfold posOf at h
    split at h
    · rename_i hb; cases h; exact ⟨0, rfl, by simp [Nat.eq_of_beq_eq_true hb]⟩
    · obtain ⟨i, h1, h2⟩ := posOf_some h; exact ⟨i + 1, by omega, by simpa using h2⟩
/-- Numbers that stand once each, the first n of them where they were. -/
def selB (n : Nat) (H : Heap) (sel : List Nat) : Bool := (sel.take n == List.range n) && sel.all (fun j => decide (j < H.length)) && decide sel.Nodup
def selφ (sel : List Nat) (j : Nat) : Sb := match posOf sel 0 j with | some k => .idx k | none => .bad
def pick (φ : Nat → Sb) (H : Heap) : List Nat → Heap
  | [] => []
  | j :: js => subB φ (H.getD j .dead) :: pick φ H js
theorem pick_get {φ : Nat → Sb} {H : Heap} : ∀ {sel : List Nat} {k : Nat} {b : Blk}, (pick φ H sel)[k]? = some b → ∃ j, sel[k]? = some j ∧ b = subB φ (H.getD j .dead)
  | [], _, _, h => by simp [pick] at h
  | j :: js, 0, b, h => ⟨j, rfl, by simpa [pick] using h.symm⟩
  | j :: js, k + 1, b, h => by simpa using pick_get (sel := js) (k := k) (by simpa [pick] using h)
theorem pick_length {φ : Nat → Sb} {H : Heap} : ∀ (sel : List Nat), (pick φ H sel).length = sel.length
  | [] => rfl
  | j :: js => by simp [pick, pick_length js]
theorem getD_get {α : Type} {l : List α} {j : Nat} {d b : α} (h : l.getD j d = b) (hb : b ≠ d) : l[j]? = some b := by
  rw [List.getD_eq_getElem?_getD] at h
  cases e : l[j]? with
  | none => rw [e] at h; simp at h; exact absurd h.symm hb
  | some x => rw [e] at h; simp at h; rw [h]
theorem nodup_get : ∀ {sel : List Nat} (_ : sel.Nodup) {i k j : Nat} (_ : sel[i]? = some j) (_ : sel[k]? = some j), i = k
  | [], _, _, _, _, h, _ => by simp at h
  | x :: xs, hn, 0, 0, _, _, _ => rfl
  | x :: xs, hn, 0, k + 1, j, h1, h2 => by
    simp at h1 h2; subst h1
    exact absurd (List.mem_of_getElem? h2) (List.nodup_cons.mp hn).1
  | x :: xs, hn, i + 1, 0, j, h1, h2 => by
    simp at h1 h2; subst h2
    exact absurd (List.mem_of_getElem? h1) (List.nodup_cons.mp hn).1
  | x :: xs, hn, i + 1, k + 1, j, h1, h2 => by
    exact congrArg (· + 1) (nodup_get (List.nodup_cons.mp hn).2 (i := i) (k := k) (j := j) (by simpa using h1) (by simpa using h2))
/-- Blocks are numbered anew; what is not named is let go. -/
theorem Rel.sel {E0 E : Env} {w0 w : World} {H : Heap} {n : Nat} (hn : E0.ρ.length = n) (he : Ext E0 w0 E w) (h : Rel E H w) {sel : List Nat} (hs : selB n H sel = true) :
    ∃ E', Ext E0 w0 E' w ∧ Rel E' (pick (selφ sel) H sel) w ∧ SubOK E E' (selφ sel) ∧ E'.Im = E.Im := by
  unfold selB at hs
  simp only [Bool.and_eq_true, beq_iff_eq, List.all_eq_true, decide_eq_true_eq] at hs
  obtain ⟨⟨hp, hlt⟩, hnd⟩ := hs
  let E' : Env := ⟨sel.map fun j => E.ρ.getD j default, E.Im⟩
  have hget : ∀ (k : Nat) (x : Nat × Nat × Nat), E'.ρ[k]? = some x ↔ ∃ j : Nat, sel[k]? = some j ∧ E.ρ[j]? = some x := by
    intro k x
    simp only [E', List.getElem?_map]
    constructor
    · intro hx
      obtain ⟨j, h1, h2⟩ := Option.map_eq_some_iff.mp hx
      have hj : j < E.ρ.length := by rw [h.len]; exact hlt j (List.mem_of_getElem? h1)
      refine ⟨j, h1, ?_⟩
      rw [List.getD_eq_getElem?_getD, List.getElem?_eq_getElem hj] at h2
      simp only [Option.getD_some] at h2
      rw [List.getElem?_eq_getElem hj, h2]
    · rintro ⟨j, h1, h2⟩
      rw [h1]; simp [h2]
  have hsub : SubOK E E' (selφ sel) := by
    refine ⟨fun j k hk x hx => ?_, fun j cs hk => ?_⟩
    · unfold selφ at hk
      split at hk
      · rename_i m hm
        cases hk
        obtain ⟨i, h1, h2⟩ := posOf_some hm
        have e : k = i := by omega
        subst e
        exact (hget _ _).mpr ⟨j, h2, hx⟩
      · cases hk
    · unfold selφ at hk
      split at hk <;> cases hk
  have hal : ∀ k : Nat, alive (pick (selφ sel) H sel) k → ∃ j : Nat, sel[k]? = some j ∧ alive H j := by
    rintro k ⟨b, hb, hd⟩
    obtain ⟨j, h1, h2⟩ := pick_get hb
    have hd' := subB_dead (h2 ▸ hd)
    exact ⟨j, h1, _, getD_get rfl hd', hd'⟩
  refine ⟨E', ⟨⟨?_, he.le.im⟩, ?_, he.imn, he.os, he.tape, he.output, he.size, he.keep⟩, ⟨by simp [E', pick_length], ?_, ?_, ?_, ?_, h.im, ?_⟩, hsub, rfl⟩
  · intro j x hx
    have hj : j < n := by rw [← hn]; exact (List.getElem?_eq_some_iff.mp hx).1
    have h1 : sel[j]? = some j := by
      have : (sel.take n)[j]? = some j := by rw [hp]; simp [hj]
      rw [List.getElem?_take, if_pos hj] at this
      exact this
    exact (hget j x).mpr ⟨j, h1, he.le.pre j x hx⟩
  · intro k x _ hx
    obtain ⟨j, _, h2⟩ := (hget k x).mp hx
    exact he.img j x h2
  · intro k cs hk
    obtain ⟨j, h1, h2⟩ := pick_get hk
    have hd : H.getD j .dead ≠ .dead := fun e => by rw [e] at h2; cases h2
    have hj := getD_get rfl hd
    generalize H.getD j .dead = b at h2 hj
    cases b with
    | dead => cases h2
    | mp _ => cases h2
    | c ds =>
      cases h2
      obtain ⟨g, f, c, t, e1, e2, e3⟩ := h.blk j ds hj
      exact ⟨g, f, c, t, (hget _ _).mpr ⟨j, h1, e1⟩, e2, VRP.sub hsub (fun _ _ h => h) _ _ e3⟩
  · intro k es hk
    obtain ⟨j, h1, h2⟩ := pick_get hk
    have hd : H.getD j .dead ≠ .dead := fun e => by rw [e] at h2; cases h2
    have hj := getD_get rfl hd
    generalize H.getD j .dead = b at h2 hj
    cases b with
    | dead => cases h2
    | c _ => cases h2
    | mp ds =>
      cases h2
      obtain ⟨g, f, q, es', kk, e1, e2, e3⟩ := h.mp j ds hj
      exact ⟨g, f, q, es', kk, (hget _ _).mpr ⟨j, h1, e1⟩, e2, VRM.sub hsub (fun _ _ h => h) _ _ e3⟩
  · intro a b x x' ha hb hx hx' e
    obtain ⟨ja, a1, a2⟩ := hal a ha
    obtain ⟨jb, b1, b2⟩ := hal b hb
    obtain ⟨ja', a3, a4⟩ := (hget _ _).mp hx
    obtain ⟨jb', b3, b4⟩ := (hget _ _).mp hx'
    rw [a1] at a3; cases a3
    rw [b1] at b3; cases b3
    have := h.inj ja jb x x' a2 b2 a4 b4 e
    subst this
    exact nodup_get hnd a1 b1
  · intro k x hx
    obtain ⟨j, _, h2⟩ := (hget k x).mp hx
    exact h.lt j x h2
  · intro k x ha hx
    obtain ⟨j, a1, a2⟩ := hal k ha
    obtain ⟨j', a3, a4⟩ := (hget _ _).mp hx
    rw [a1] at a3; cases a3
    exact h.imd j x a2 a4
end Go.AK
