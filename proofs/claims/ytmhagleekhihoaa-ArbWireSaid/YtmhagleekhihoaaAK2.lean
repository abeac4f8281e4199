import Derived.Test.YtmhagleekhihoaaAK1
namespace Go.AK
open Go Go.RowKit
set_option linter.unusedVariables false
def Env.push (E : Env) (x : Nat × Nat × Nat) : Env := ⟨E.ρ ++ [x], E.Im⟩
theorem Env.le_push (E : Env) (x : Nat × Nat × Nat) : E.le (E.push x) :=
  ⟨fun j y h => by
    have hj : j < E.ρ.length := (List.getElem?_eq_some_iff.mp h).1
    simp only [Env.push]; rw [List.getElem?_append_left hj]; exact h, fun _ _ h => h⟩
def alive (H : Heap) (j : Nat) : Prop := ∃ b, H[j]? = some b ∧ b ≠ .dead
mutual
def VRM (E : Env) : List (AV × AV) → List MapEntry → Prop
  | [], es => es = []
  | (k, x) :: xs, es => ∃ e es', es = e :: es' ∧ VR E k e.key ∧ VR E x e.val ∧ VRM E xs es'
end
theorem VRM.mono {E E' : Env} (h : E.le E') : ∀ (xs : List (AV × AV)) (vs : List MapEntry), VRM E xs vs → VRM E' xs vs
  | [], _, hv => hv
  | (k, x) :: xs, es, ⟨e, es', h1, h2, h3, h4⟩ => ⟨e, es', h1, h2.mono h, h3.mono h, VRM.mono h xs es' h4⟩
/-- The heap's blocks lie in the world's. -/
structure Rel (E : Env) (H : Heap) (w : World) : Prop where
  len : E.ρ.length = H.length
  blk : ∀ (j : Nat) cs, H[j]? = some (.c cs) → ∃ g f c t, E.ρ[j]? = some (g, f, c.size) ∧ w.heap[g]? = some (.cells c t (0, 0)) ∧ VRP E cs (c.toList.drop f)
  mp : ∀ (j : Nat) es, H[j]? = some (.mp es) → ∃ g f q es' k, E.ρ[j]? = some (g, f, q) ∧ w.heap[g]? = some (.map es' k) ∧ VRM E es es'.toList
  inj : ∀ (j j' : Nat) (x x' : Nat × Nat × Nat), alive H j → alive H j' → E.ρ[j]? = some x → E.ρ[j']? = some x' → x.1 = x'.1 → j = j'
  lt : ∀ (j : Nat) (x : Nat × Nat × Nat), E.ρ[j]? = some x → x.1 < w.heap.size
  im : ∀ g o, E.Im g = some o → w.heap[g]? = some o
  imd : ∀ (j : Nat) (x : Nat × Nat × Nat), alive H j → E.ρ[j]? = some x → E.Im x.1 = none
/-- What a call, or a part of one, may have done since E0, w0. -/
structure Ext (E0 : Env) (w0 : World) (E : Env) (w : World) : Prop where
  le : E0.le E
  new : ∀ (j : Nat) (x : Nat × Nat × Nat), E0.ρ.length ≤ j → E.ρ[j]? = some x → w0.heap.size ≤ x.1 ∨ ∃ (j' : Nat) (x' : Nat × Nat × Nat), E0.ρ[j']? = some x' ∧ x'.1 = x.1
  imn : ∀ g o, E.Im g = some o → E0.Im g = some o ∨ w0.heap.size ≤ g ∨ ∃ (j' : Nat) (x' : Nat × Nat × Nat), E0.ρ[j']? = some x' ∧ x'.1 = g
  os : w.os = w0.os
  tape : w.tape = w0.tape
  output : w.output = w0.output
  size : w0.heap.size ≤ w.heap.size
  keep : ∀ g, g < w0.heap.size → (∀ (j : Nat) (x : Nat × Nat × Nat), E0.ρ[j]? = some x → x.1 ≠ g) → w.heap[g]? = w0.heap[g]?
theorem Ext.refl (E : Env) (w : World) : Ext E w E w :=
  ⟨.refl E, fun j x h hx => by have := (List.getElem?_eq_some_iff.mp hx).1; omega, fun _ _ h => .inl h, rfl, rfl, rfl, Nat.le_refl _, fun _ _ _ => rfl⟩
theorem Ext.trans {E0 E1 E2 : Env} {w0 w1 w2 : World} (h : Ext E0 w0 E1 w1) (k : Ext E1 w1 E2 w2) : Ext E0 w0 E2 w2 := by
  have img : ∀ (j : Nat) (x : Nat × Nat × Nat), E1.ρ[j]? = some x → w0.heap.size ≤ x.1 ∨ ∃ (j' : Nat) (x' : Nat × Nat × Nat), E0.ρ[j']? = some x' ∧ x'.1 = x.1 := by
    intro j x hx
    by_cases hj : E0.ρ.length ≤ j
    · exact h.new j x hj hx
    · have hl : j < E0.ρ.length := by omega
      have e0 : E0.ρ[j]? = some E0.ρ[j] := List.getElem?_eq_getElem hl
      have := h.le.pre j _ e0
      rw [hx] at this
      cases this
      exact .inr ⟨j, _, e0, rfl⟩
  refine ⟨h.le.trans k.le, ?_, ?_, k.os.trans h.os, k.tape.trans h.tape, k.output.trans h.output, Nat.le_trans h.size k.size, ?_⟩
  · intro j x hj hx
    by_cases hj1 : E1.ρ.length ≤ j
    · rcases k.new j x hj1 hx with h1 | ⟨j', x', h1, h2⟩
      · exact .inl (Nat.le_trans h.size h1)
      · rw [← h2]; exact img j' x' h1
    · have hl : j < E1.ρ.length := by omega
      have e1 : E1.ρ[j]? = some E1.ρ[j] := List.getElem?_eq_getElem hl
      have := k.le.pre j _ e1
      rw [hx] at this
      cases this
      exact img j _ e1
  · intro g o hg
    rcases k.imn g o hg with h1 | h1 | ⟨j', x', h1, h2⟩
    · exact h.imn g o h1
    · exact .inr (.inl (Nat.le_trans h.size h1))
    · rcases img j' x' h1 with h3 | h3
      · exact .inr (.inl (h2 ▸ h3))
      · exact .inr (.inr (by rw [← h2]; exact h3))
  · intro g hg hn
    rw [← h.keep g hg hn]
    refine k.keep g (Nat.lt_of_lt_of_le hg h.size) fun j x hx e => ?_
    rcases img j x hx with h1 | ⟨j', x', h1, h2⟩
    · omega
    · exact hn j' x' h1 (h2.trans e)
theorem alive.lt {H : Heap} {j : Nat} (h : alive H j) : j < H.length := by
  obtain ⟨b, hb, _⟩ := h
  exact (List.getElem?_eq_some_iff.mp hb).1
/-- A new block. -/
theorem Rel.alloc {E : Env} {H : Heap} {w : World} (h : Rel E H w) {cs : List AV} {c : Array Value} {t : TypeId} (f : Nat) (hv : VRP E cs (c.toList.drop f)) :
    Rel (E.push (w.heap.size, f, c.size)) (H ++ [.c cs]) (w.alloc (.cells c t (0, 0))) ∧ Ext E w (E.push (w.heap.size, f, c.size)) (w.alloc (.cells c t (0, 0))) := by
  have hle := E.le_push (w.heap.size, f, c.size)
  have hold : ∀ k, k < w.heap.size → (w.alloc (.cells c t (0, 0))).heap[k]? = w.heap[k]? := fun k hk => Below.heap_alloc _ _ _ hk
  have hnew : (w.alloc (.cells c t (0, 0))).heap[w.heap.size]? = some (.cells c t (0, 0)) := by
    show (w.heap.push _)[w.heap.size]? = _
    simp
  have hsz : (w.alloc (.cells c t (0, 0))).heap.size = w.heap.size + 1 := by
    show (w.heap.push _).size = _
    simp
  have hget : ∀ j (b : Blk), (H ++ [Blk.c cs])[j]? = some b → (H[j]? = some b ∧ j < H.length) ∨ (j = H.length ∧ b = .c cs) := by
    intro j b hb
    rcases Nat.lt_trichotomy j H.length with h1 | h1 | h1
    · rw [List.getElem?_append_left h1] at hb; exact .inl ⟨hb, h1⟩
    · subst h1; rw [List.getElem?_append_right (Nat.le_refl _)] at hb; simp at hb; exact .inr ⟨rfl, hb.symm⟩
    · rw [List.getElem?_eq_none (by simp; omega)] at hb; cases hb
  have hρ : ∀ j (x : Nat × Nat × Nat), (E.push (w.heap.size, f, c.size)).ρ[j]? = some x → (E.ρ[j]? = some x ∧ j < H.length) ∨ (j = H.length ∧ x = (w.heap.size, f, c.size)) := by
    intro j x hx
    simp only [Env.push] at hx
    rcases Nat.lt_trichotomy j E.ρ.length with h1 | h1 | h1
    · rw [List.getElem?_append_left h1] at hx; exact .inl ⟨hx, h.len ▸ h1⟩
    · subst h1; rw [List.getElem?_append_right (Nat.le_refl _)] at hx; simp at hx; exact .inr ⟨h.len, hx.symm⟩
    · rw [List.getElem?_eq_none (by simp; omega)] at hx; cases hx
  have hlast : (E.push (w.heap.size, f, c.size)).ρ[H.length]? = some (w.heap.size, f, c.size) := by
    simp only [Env.push]; rw [← h.len, List.getElem?_append_right (Nat.le_refl _)]; simp
  refine ⟨⟨by simp [Env.push, h.len], ?_, ?_, ?_, ?_, ?_, ?_⟩, ⟨hle, ?_, fun g o hg => .inl hg, rfl, rfl, rfl, by omega, fun g hg _ => hold g hg⟩⟩
  · intro j cs' hj
    rcases hget j _ hj with ⟨h1, _⟩ | ⟨h1, h2⟩
    · obtain ⟨g, f', c', t', e1, e2, e3⟩ := h.blk j cs' h1
      exact ⟨g, f', c', t', hle.pre _ _ e1, (hold g (h.lt _ _ e1)).trans e2, e3.mono hle⟩
    · cases h2; subst h1; exact ⟨_, f, c, t, hlast, hnew, hv.mono hle⟩
  · intro j es hj
    rcases hget j _ hj with ⟨h1, _⟩ | ⟨h1, h2⟩
    · obtain ⟨g, f', q, es', k, e1, e2, e3⟩ := h.mp j es h1
      exact ⟨g, f', q, es', k, hle.pre _ _ e1, (hold g (h.lt _ _ e1)).trans e2, e3.mono hle⟩
    · cases h2
  · intro j j' x x' ha ha' hx hx' e
    obtain ⟨b, hb, hd⟩ := ha
    obtain ⟨b', hb', hd'⟩ := ha'
    rcases hρ j x hx with ⟨h1, l1⟩ | ⟨h1, rfl⟩ <;> rcases hρ j' x' hx' with ⟨h2, l2⟩ | ⟨h2, rfl⟩
    · refine h.inj j j' x x' ⟨b, ?_, hd⟩ ⟨b', ?_, hd'⟩ h1 h2 e
      · rwa [List.getElem?_append_left l1] at hb
      · rwa [List.getElem?_append_left l2] at hb'
    · have := h.lt _ _ h1; simp only at e; omega
    · have := h.lt _ _ h2; simp only at e; omega
    · omega
  · intro j x hx
    rcases hρ j x hx with ⟨h1, _⟩ | ⟨_, rfl⟩
    · have := h.lt _ _ h1; omega
    · simp only; omega
  · intro g o hg
    have hg' : E.Im g = some o := hg
    have := h.im g o hg'
    have hl : g < w.heap.size := (Array.getElem?_eq_some_iff.mp this).1
    exact (hold g hl).trans this
  · intro j x ha hx
    obtain ⟨b, hb, hd⟩ := ha
    rcases hρ j x hx with ⟨h1, l1⟩ | ⟨_, rfl⟩
    · exact h.imd j x ⟨b, by rwa [List.getElem?_append_left l1] at hb, hd⟩ h1
    · show E.Im w.heap.size = none
      cases hE : E.Im w.heap.size with
      | none => rfl
      | some o => have := h.im _ _ hE; have := (Array.getElem?_eq_some_iff.mp this).1; omega
  · intro j x hj hx
    rcases hρ j x hx with ⟨h1, l1⟩ | ⟨_, rfl⟩
    · have := h.len; omega
    · exact .inl (Nat.le_refl _)
/-- A block's cells are put anew. -/
theorem Rel.setRow {E : Env} {H : Heap} {w : World} (h : Rel E H w) {j g f : Nat} {cs cs' : List AV} {c c' : Array Value} {t : TypeId} (hj : H[j]? = some (.c cs)) (hρ : E.ρ[j]? = some (g, f, c.size))
    (hg : w.heap[g]? = some (.cells c t (0, 0))) (hs : c'.size = c.size) (hv : VRP E cs' (c'.toList.drop f)) :
    Rel E (H.set j (.c cs')) (w.setRow g c') ∧ Ext E w E (w.setRow g c') := by
  have hjl : j < H.length := (List.getElem?_eq_some_iff.mp hj).1
  have hfar : ∀ k, k ≠ g → (w.setRow g c').heap[k]? = w.heap[k]? := fun k hk => by
    simp only [World.setRow, Array.getElem?_modify]; rw [if_neg (by omega)]
  have hhere : (w.setRow g c').heap[g]? = some (.cells c' t (0, 0)) := by
    simp only [World.setRow, Array.getElem?_modify, if_true, hg, Option.map_some]
  have hsz : (w.setRow g c').heap.size = w.heap.size := by simp [World.setRow]
  have hal : ∀ k, alive (H.set j (.c cs')) k → alive H k := by
    rintro k ⟨b, hb, hd⟩
    by_cases e : j = k
    · subst e; exact ⟨_, hj, by simp⟩
    · rw [List.getElem?_set_ne e] at hb; exact ⟨b, hb, hd⟩
  have haj : alive H j := ⟨_, hj, by simp⟩
  refine ⟨⟨by simp [h.len], ?_, ?_, fun a b x x' ha hb => h.inj a b x x' (hal a ha) (hal b hb), fun a x hx => by rw [hsz]; exact h.lt a x hx, ?_, fun a x ha => h.imd a x (hal a ha)⟩, ⟨.refl E, ?_, fun _ _ h => .inl h, rfl, rfl, rfl, by omega, ?_⟩⟩
  · intro k ds hk
    by_cases e : j = k
    · subst e
      rw [List.getElem?_set_self hjl] at hk
      cases hk
      exact ⟨g, f, c', t, by rw [hs]; exact hρ, hhere, hv⟩
    · rw [List.getElem?_set_ne e] at hk
      obtain ⟨g', f', c1, t', e1, e2, e3⟩ := h.blk k ds hk
      have hne : g' ≠ g := fun eg => e (h.inj j k _ _ haj ⟨_, hk, by simp⟩ hρ e1 eg.symm)
      exact ⟨g', f', c1, t', e1, (hfar _ hne).trans e2, e3⟩
  · intro k es hk
    by_cases e : j = k
    · subst e; rw [List.getElem?_set_self hjl] at hk; cases hk
    · rw [List.getElem?_set_ne e] at hk
      obtain ⟨g', f', q, es', kk, e1, e2, e3⟩ := h.mp k es hk
      have hne : g' ≠ g := fun eg => e (h.inj j k _ _ haj ⟨_, hk, by simp⟩ hρ e1 eg.symm)
      exact ⟨g', f', q, es', kk, e1, (hfar _ hne).trans e2, e3⟩
  · intro g' o ho
    have hne : g' ≠ g := fun eg => by
      have := h.imd j _ haj hρ
      simp only at this
      rw [← eg, ho] at this; cases this
    exact (hfar _ hne).trans (h.im g' o ho)
  · intro a x ha hx
    have := (List.getElem?_eq_some_iff.mp hx).1; omega
  · intro g' _ hn
    exact hfar g' fun e => hn j _ hρ e.symm
/-- A block is given up. -/
theorem Rel.kill {E : Env} {H : Heap} {w : World} (h : Rel E H w) (j : Nat) : Rel E (H.set j .dead) w := by
  have hal : ∀ k, alive (H.set j .dead) k → alive H k ∧ k ≠ j := by
    rintro k ⟨b, hb, hd⟩
    by_cases e : j = k
    · subst e
      by_cases hl : j < H.length
      · rw [List.getElem?_set_self hl] at hb; cases hb; exact absurd rfl hd
      · rw [List.getElem?_eq_none (by simp; omega)] at hb; cases hb
    · rw [List.getElem?_set_ne e] at hb; exact ⟨⟨b, hb, hd⟩, fun e' => e e'.symm⟩
  refine ⟨by simp [h.len], ?_, ?_, fun a b x x' ha hb => h.inj a b x x' (hal a ha).1 (hal b hb).1, h.lt, h.im, fun a x ha => h.imd a x (hal a ha).1⟩
  · intro k ds hk
    have e : j ≠ k := fun e => (hal k ⟨_, hk, by simp⟩).2 e.symm
    rw [List.getElem?_set_ne e] at hk
    exact h.blk k ds hk
  · intro k es hk
    have e : j ≠ k := fun e => (hal k ⟨_, hk, by simp⟩).2 e.symm
    rw [List.getElem?_set_ne e] at hk
    exact h.mp k es hk
end Go.AK
