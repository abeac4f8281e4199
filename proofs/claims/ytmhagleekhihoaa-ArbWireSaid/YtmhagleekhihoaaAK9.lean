import Derived.Test.YtmhagleekhihoaaAK8
namespace Go.AK
open Go Go.RowKit
set_option linter.unusedVariables false
set_option linter.unusedSimpArgs false
section
variable {P : Program} {T : TT}
theorem Rel.heap {E : Env} {H : Heap} {w w' : World} (h : Rel E H w) (e : w'.heap = w.heap) : Rel E H w' :=
  ⟨h.len, fun j cs hj => by rw [e]; exact h.blk j cs hj, fun j es hj => by rw [e]; exact h.mp j es hj, h.inj, fun j x hx => by rw [e]; exact h.lt j x hx, fun g o hg => by rw [e]; exact h.im g o hg, h.imd⟩
theorem Ext.drew (E : Env) (w : World) : Ext E w E w.drew :=
  ⟨.refl E, fun j x h hx => by have := (List.getElem?_eq_some_iff.mp hx).1; omega, fun _ _ h => .inl h, rfl, rfl, rfl, Nat.le_refl _, fun _ _ _ => rfl⟩
/-- A block is given up, and stands anew under another number, elsewhere in the same row of cells. -/
theorem Rel.move {E : Env} {H : Heap} {w : World} (h : Rel E H w) {j g f f' : Nat} {cs cs' : List AV} {c c' : Array Value} {t : TypeId} (hj : H[j]? = some (.c cs)) (hρ : E.ρ[j]? = some (g, f, c.size))
    (hg : w.heap[g]? = some (.cells c t (0, 0))) (hs : c'.size = c.size) (hv : VRP E cs' (c'.toList.drop f')) :
    Rel (E.push (g, f', c.size)) (H.set j .dead ++ [.c cs']) (w.setRow g c') ∧ Ext E w (E.push (g, f', c.size)) (w.setRow g c') := by
  have hle := E.le_push (g, f', c.size)
  have hjl : j < H.length := (List.getElem?_eq_some_iff.mp hj).1
  have hfar : ∀ k, k ≠ g → (w.setRow g c').heap[k]? = w.heap[k]? := fun k hk => setRow_other w g k c' hk
  have hhere : (w.setRow g c').heap[g]? = some (.cells c' t (0, 0)) := setRow_heap w g c c' t (0, 0) hg
  have hsz : (w.setRow g c').heap.size = w.heap.size := setRow_size w g c'
  have haj : alive H j := ⟨_, hj, by simp⟩
  have hll : (H.set j Blk.dead).length = H.length := by simp
  have hget : ∀ k (b : Blk), (H.set j .dead ++ [Blk.c cs'])[k]? = some b → b ≠ .dead → (H[k]? = some b ∧ k < H.length ∧ k ≠ j) ∨ (k = H.length ∧ b = .c cs') := by
    intro k b hb hd
    rcases Nat.lt_trichotomy k H.length with h1 | h1 | h1
    · rw [List.getElem?_append_left (by omega)] at hb
      by_cases e : j = k
      · subst e; rw [List.getElem?_set_self h1] at hb; cases hb; exact absurd rfl hd
      · rw [List.getElem?_set_ne e] at hb; exact .inl ⟨hb, h1, fun e' => e e'.symm⟩
    · subst h1; rw [List.getElem?_append_right (by omega)] at hb; simp at hb; exact .inr ⟨rfl, hb.symm⟩
    · rw [List.getElem?_eq_none (by simp; omega)] at hb; cases hb
  have hρ' : ∀ k (x : Nat × Nat × Nat), (E.push (g, f', c.size)).ρ[k]? = some x → (E.ρ[k]? = some x ∧ k < H.length) ∨ (k = H.length ∧ x = (g, f', c.size)) := by
    intro k x hx
    simp only [Env.push] at hx
    rcases Nat.lt_trichotomy k E.ρ.length with h1 | h1 | h1
    · rw [List.getElem?_append_left h1] at hx; exact .inl ⟨hx, h.len ▸ h1⟩
    · subst h1; rw [List.getElem?_append_right (Nat.le_refl _)] at hx; simp at hx; exact .inr ⟨h.len, hx.symm⟩
    · rw [List.getElem?_eq_none (by simp; omega)] at hx; cases hx
  have hlast : (E.push (g, f', c.size)).ρ[H.length]? = some (g, f', c.size) := by
    simp only [Env.push]; rw [← h.len, List.getElem?_append_right (Nat.le_refl _)]; simp
  have hal : ∀ k, alive (H.set j .dead ++ [.c cs']) k → (alive H k ∧ k < H.length ∧ k ≠ j) ∨ k = H.length := by
    rintro k ⟨b, hb, hd⟩
    rcases hget k b hb hd with ⟨h1, h2, h3⟩ | ⟨h1, _⟩
    · exact .inl ⟨⟨b, h1, hd⟩, h2, h3⟩
    · exact .inr h1
  refine ⟨⟨by simp [Env.push, h.len], ?_, ?_, ?_, ?_, ?_, ?_⟩, ⟨hle, ?_, fun _ _ h => .inl h, rfl, rfl, rfl, by omega, ?_⟩⟩
  · intro k ds hk
    rcases hget k _ hk (by simp) with ⟨h1, h2, h3⟩ | ⟨h1, h2⟩
    · obtain ⟨g', f1, c1, t', e1, e2, e3⟩ := h.blk k ds h1
      have hne : g' ≠ g := fun eg => h3 (h.inj j k _ _ haj ⟨_, h1, by simp⟩ hρ e1 eg.symm).symm
      exact ⟨g', f1, c1, t', hle.pre _ _ e1, (hfar _ hne).trans e2, e3.mono hle⟩
    · cases h2; subst h1
      exact ⟨g, f', c', t, by rw [hs]; exact hlast, hhere, hv.mono hle⟩
  · intro k es hk
    rcases hget k _ hk (by simp) with ⟨h1, h2, h3⟩ | ⟨h1, h2⟩
    · obtain ⟨g', f1, q, es', kk, e1, e2, e3⟩ := h.mp k es h1
      have hne : g' ≠ g := fun eg => h3 (h.inj j k _ _ haj ⟨_, h1, by simp⟩ hρ e1 eg.symm).symm
      exact ⟨g', f1, q, es', kk, hle.pre _ _ e1, (hfar _ hne).trans e2, e3.mono hle⟩
    · cases h2
  · intro a b x x' ha hb hx hx' e
    rcases hal a ha with ⟨a1, a2, a3⟩ | rfl <;> rcases hal b hb with ⟨b1, b2, b3⟩ | rfl
    · rcases hρ' _ x hx with ⟨h1, _⟩ | ⟨h1, rfl⟩
      · rcases hρ' _ x' hx' with ⟨h2, _⟩ | ⟨h2, rfl⟩
        · exact h.inj a b x x' a1 b1 h1 h2 e
        · omega
      · omega
    · rcases hρ' _ x hx with ⟨h1, _⟩ | ⟨h1, rfl⟩
      · rcases hρ' _ x' hx' with ⟨h2, _⟩ | ⟨h2, rfl⟩
        · omega
        · exact absurd (h.inj j a _ _ haj a1 hρ h1 e.symm).symm a3
      · omega
    · rcases hρ' _ x hx with ⟨h1, _⟩ | ⟨h1, rfl⟩
      · omega
      · rcases hρ' _ x' hx' with ⟨h2, _⟩ | ⟨h2, rfl⟩
        · exact absurd (h.inj j b _ _ haj b1 hρ h2 e).symm b3
        · omega
    · rfl
  · intro k x hx
    rw [hsz]
    rcases hρ' _ x hx with ⟨h1, _⟩ | ⟨h1, rfl⟩
    · exact h.lt _ _ h1
    · exact (h.lt _ _ hρ : g < w.heap.size)
  · intro g' o ho
    have ho' : E.Im g' = some o := ho
    have hne : g' ≠ g := fun eg => by
      have := h.imd j _ haj hρ
      simp only at this
      rw [← eg, ho'] at this; cases this
    exact (hfar _ hne).trans (h.im g' o ho')
  · intro k x ha hx
    show E.Im x.1 = none
    rcases hρ' _ x hx with ⟨h1, h2⟩ | ⟨h1, rfl⟩
    · rcases hal k ha with ⟨a1, _, _⟩ | rfl
      · exact h.imd k x a1 h1
      · omega
    · exact (h.imd j _ haj hρ : E.Im g = none)
  · intro k x hk hx
    rcases hρ' _ x hx with ⟨h1, h2⟩ | ⟨h1, rfl⟩
    · have := h.len; omega
    · exact .inr ⟨j, _, hρ, rfl⟩
  · intro g' _ hn
    exact hfar g' fun e => hn j _ hρ e.symm
/-- A slice's cells are read. -/
theorem arow_sound {E : Env} {H : Heap} {w : World} (hR : Rel E H w) {z : Nat} {v : AV} {a : Value} (hv : VR E v a) {K : List AV → Nat → Prop} (h : arow H z v K) :
    ∃ cells n vs, K cells n ∧ VRL E cells vs ∧ vs.length = n * z ∧ (∃ q c, a = .slice q n c) ∧ ∀ w' : World, w'.heap = w.heap → ∀ m, m ≤ n → (Builtin.firstCells z m a).run P w' = .ok (vs.take (m * z)).toArray w' := by
  have read : ∀ {g o' n m c : Nat} {b : Array Value} {t : TypeId} {fz : Nat × Nat} {w' : World}, w'.heap[g]? = some (.cells b t fz) → m ≤ n → o' + n * z ≤ b.size →
      (Builtin.firstCells z m (.slice (some ⟨g, o', none⟩) n c)).run P w' = .ok (((b.toList.drop o').take (n * z)).take (m * z)).toArray w' := by
    intro g o' n m c b t fz w' hg hm hl
    have hmz : m * z ≤ n * z := Nat.mul_le_mul_right z hm
    rw [List.take_take, Nat.min_eq_left hmz]
    refine run_firstCells_some w' z m ⟨g, o', none⟩ n c _ (by simp; omega) fun j u hj => ?_
    rw [add_zero_addr, cell_of hg]
    rw [List.getElem?_take] at hj
    split at hj
    · rw [List.getElem?_drop] at hj; rw [← Array.getElem?_toList]; exact hj
    · cases hj
  unfold arow at h
  split at h
  · obtain ⟨rfl, rfl, rfl⟩ := hv
    refine ⟨[], 0, [], h, rfl, by simp, ⟨_, _, rfl⟩, fun w' _ m hm => ?_⟩
    have : m = 0 := by omega
    subst this
    simp [Builtin.firstCells]
  · rename_i j o z' n c
    replace h := acond_true h
    obtain ⟨hz, h⟩ := h
    obtain rfl := Nat.eq_of_beq_eq_true hz
    obtain ⟨cs, hj, hl, h⟩ := ablk_some h
    obtain ⟨g, f, q, o', hρ, rfl, hnc, hfit⟩ := hv
    obtain ⟨g', f', b, t, e1, e2, e3⟩ := hR.blk j cs hj
    rw [hρ] at e1
    simp only [Option.some.injEq, Prod.mk.injEq] at e1
    obtain ⟨rfl, rfl, rfl⟩ := e1
    have hbl := e3.length
    simp only [List.length_drop, Array.length_toList] at hbl
    rcases hfit with ⟨rfl, hfit⟩ | rfl
    · have hseg := (e3.drop o).take (n * z') (by simp; omega)
      refine ⟨_, n, ((b.toList.drop f).drop o).take (n * z'), h, hseg, ?_, ⟨_, _, rfl⟩, fun w' hw m hm => ?_⟩
      · rw [hseg.length]; simp; omega
      · have : f + o + n * z' ≤ b.size ∨ n * z' = 0 := by omega
        rcases this with h1 | h1
        · rw [read (hw ▸ e2) hm h1, List.drop_drop]
        · have h2 : m * z' = 0 := by
            have := Nat.mul_le_mul_right z' hm
            omega
          rw [h1, h2]
          simp [Builtin.firstCells, h2, loadCells, loadCellsFrom]
    · have hn0 : n = 0 := by omega
      subst hn0
      refine ⟨_, 0, [], h, by simp [VRL], by simp, ⟨_, _, rfl⟩, fun w' hw m hm => ?_⟩
      have : m = 0 := by omega
      subst this
      simp [Builtin.firstCells, loadCells, loadCellsFrom]
  · rename_i cs o z' n
    replace h := acond_true h
    obtain ⟨hz, hl, h⟩ := h
    obtain rfl := Nat.eq_of_beq_eq_true hz
    rcases hv with ⟨rfl, a, c, rfl⟩ | ⟨g, f, b, t, fz, cap, hI, rfl, hnc, e3⟩
    · refine ⟨_, 0, [], h, by simp [VRL], by simp, ⟨_, _, rfl⟩, fun w' hw m hm => ?_⟩
      have : m = 0 := by omega
      subst this
      cases a <;> simp [Builtin.firstCells, loadCells, loadCellsFrom]
    · have hbl := e3.length
      simp only [List.length_drop, Array.length_toList] at hbl
      have hseg := (e3.drop o).take (n * z') (by simp; omega)
      refine ⟨_, n, ((b.toList.drop f).drop o).take (n * z'), h, hseg, ?_, ⟨_, _, rfl⟩, fun w' hw m hm => ?_⟩
      · rw [hseg.length]; simp; omega
      · have : f + o + n * z' ≤ b.size ∨ n * z' = 0 := by omega
        rcases this with h1 | h1
        · rw [read (hw ▸ hR.im _ _ hI) hm h1, List.drop_drop]
        · have h2 : m * z' = 0 := by
            have := Nat.mul_le_mul_right z' hm
            omega
          rw [h1, h2]
          simp [Builtin.firstCells, h2, loadCells, loadCellsFrom]
  · exact h.elim
theorem run_append_B {w : World} {t t1 ty e : TypeId} {i : TypeInfo} {z : Value} {d1 : TypeDesc} (ht : P.underlying t = some (.slice e)) (ht1 : P.underlying t1 = some d1) (hd1 : ∀ k, d1 ≠ .int k) (hi : P.info? e = some i) (hz : i.zero = some z)
    {q : Option Addr} {n c m : Nat} {q' : Option Addr} {c' : Nat} {olds news : List Value}
    (ho : ∀ w' : World, w'.heap = w.heap → (Builtin.firstCells i.size n (.slice q n c)).run P w' = .ok olds.toArray w')
    (hn : ∀ w' : World, w'.heap = w.heap → (Builtin.firstCells i.size m (.slice q' m c')).run P w' = .ok news.toArray w')
    (hg : c < n + m) (h63 : ((n + m : Nat) : Int) ≤ 9223372036854775807) (hfit : Builtin.nextslicecap (n + m) c * i.bytes ≤ 281474976710656) :
    (Builtin.append_ #[t, t1] ty #[.slice q n c, .slice q' m c']).run P w =
      .ok (.slice (some ⟨w.heap.size, 0, none⟩) (n + m) (grownCap w (n + m) c e))
        (w.drew.alloc (.cells (olds.toArray ++ news.toArray ++ Builtin.zeroCells z.cells (grownCap w (n + m) c e - (n + m))) e)) := by
  have h1 : ¬ (n + m ≤ c) := by omega
  have h63' : ¬ (9223372036854775807 < ((n : Int) + (m : Int))) := by omega
  have h48' : ¬ (281474976710656 < Builtin.nextslicecap (n + m) c * i.bytes) := by omega
  have hf := hn w.drew rfl
  have hfo := ho w.drew rfl
  have hm : (match d1 with | .int _ => true | _ => false) = false := by cases d1 <;> first | rfl | exact absurd rfl (hd1 _)
  simp [Builtin.append_, run_underlying ht, run_underlying ht1, sizeOf, typeInfo, zeroValue, hi, hz, Builtin.lenOf, h1, h63', h48', Question.forced, hf, hfo, newRow, grownCap, hm]
  congr 2
  apply Array.ext'
  simp
theorem run_append_A {w w' : World} {t t1 ty e : TypeId} {i : TypeInfo} {d1 : TypeDesc} (ht : P.underlying t = some (.slice e)) (ht1 : P.underlying t1 = some d1) (hd1 : ∀ k, d1 ≠ .int k) (hi : P.info? e = some i)
    {q : Option Addr} {n c m : Nat} {q' : Option Addr} {c' : Nat} {news : List Value}
    (hn : (Builtin.firstCells i.size m (.slice q' m c')).run P w = .ok news.toArray w)
    (hg : n + m ≤ c) (hst : ∀ b, q = some b → (storeCells (b.add (n * i.size)) news).run P w = .ok () w') (hq : q = none → w' = w) :
    (Builtin.append_ #[t, t1] ty #[.slice q n c, .slice q' m c']).run P w = .ok (.slice q (n + m) c) w' := by
  have hm : (match d1 with | .int _ => true | _ => false) = false := by cases d1 <;> first | rfl | exact absurd rfl (hd1 _)
  cases q with
  | none =>
    have := hq rfl
    subst this
    simp [Builtin.append_, run_underlying ht, run_underlying ht1, sizeOf, typeInfo, hi, Builtin.lenOf, hg, hn, hm]
  | some b =>
    have := hst b rfl
    simp [Builtin.append_, run_underlying ht, run_underlying ht1, sizeOf, typeInfo, hi, Builtin.lenOf, hg, hn, hm, this]
theorem run_append_Z {w : World} {t t1 ty e : TypeId} {i : TypeInfo} {z : Value} {k1 kk : IntKind} (ht : P.underlying t = some (.slice e)) (ht1 : P.underlying t1 = some (.int k1)) (hi : P.info? e = some i) (hz : i.zero = some z) (hzs : z.cells.size = i.size)
    {q : Option Addr} {n c : Nat} {k : Int} {olds : List Value} (hk : 0 ≤ k)
    (ho : ∀ w' : World, w'.heap = w.heap → (Builtin.firstCells i.size n (.slice q n c)).run P w' = .ok olds.toArray w')
    (hg : c < n + k.toNat) (h63 : ((n + k.toNat : Nat) : Int) ≤ 9223372036854775807) (hby : (n + k.toNat) * i.bytes ≤ 281474976710656) (hfit : Builtin.nextslicecap (n + k.toNat) c * i.bytes ≤ 281474976710656) :
    (Builtin.append_ #[t, t1] ty #[.slice q n c, .int kk k]).run P w =
      .ok (.slice (some ⟨w.heap.size, 0, none⟩) (n + k.toNat) (grownCap w (n + k.toNat) c e))
        (w.drew.alloc (.cells (olds.toArray ++ Builtin.zeroCells z.cells k.toNat ++ Builtin.zeroCells z.cells (grownCap w (n + k.toNat) c e - (n + k.toNat))) e)) := by
  have h1 : ¬ (n + k.toNat ≤ c) := by omega
  have h63' : ¬ (IntKind.i64.max < ((n : Int) + (k.toNat : Int))) := by
    have : IntKind.i64.max = 9223372036854775807 := by decide
    omega
  have h48' : ¬ (281474976710656 < Builtin.nextslicecap (n + k.toNat) c * i.bytes) := by omega
  have hw : IntKind.i64.wrap k = k := by rw [IntKind.wrap_i64]; omega
  have hneg : ¬ k < 0 := by omega
  have hkb : ¬ (281474976710656 < k * (i.bytes : Int)) := by
    have h2 : k.toNat * i.bytes ≤ (n + k.toNat) * i.bytes := Nat.mul_le_mul_right _ (by omega)
    have h3 : ((k.toNat * i.bytes : Nat) : Int) = k * (i.bytes : Int) := by rw [Int.natCast_mul, Int.toNat_of_nonneg hk]
    omega
  have hfo := ho w.drew rfl
  have happ : ∀ w' : World, (if k.toNat * i.size = 0 then (pure #[] : Sem (Array Value)) else do pure (Builtin.zeroCells (← Go.zeroValue e).cells k.toNat)).run P w' = .ok (Builtin.zeroCells z.cells k.toNat) w' := by
    intro w'
    by_cases h0 : k.toNat * i.size = 0
    · rw [if_pos h0]
      have : Builtin.zeroCells z.cells k.toNat = #[] := by
        apply Array.eq_empty_of_size_eq_zero
        rw [size_zeroCells, hzs]; exact h0
      rw [this]; rfl
    · rw [if_neg h0]
      simp [Go.zeroValue, typeInfo, hi, hz]
  have hzv : ∀ w', (Go.zeroValue e).run P w' = .ok z w' := fun w' => by simp [Go.zeroValue, typeInfo, hi, hz]
  have hsz : ∀ w', (Go.sizeOf e).run P w' = .ok i.size w' := fun w' => by simp [Go.sizeOf, typeInfo, hi]
  have hti : ∀ w', (typeInfo e).run P w' = .ok i w' := fun w' => by simp [typeInfo, hi]
  simp only [Builtin.append_]
  simp only [List.getElem?_toArray, List.getElem?_cons_zero, List.getElem?_cons_succ]
  simp [run_underlying ht, run_underlying ht1, hsz, hti, hzv, asInt, asIntOf, hw, hneg, hkb, h1, h48', Question.forced, hfo, newRow, grownCap]
  rw [if_neg (by omega)]
  by_cases h0 : k.toNat * i.size = 0
  · rw [if_pos h0]
    have : Builtin.zeroCells z.cells k.toNat = #[] := by
      apply Array.eq_empty_of_size_eq_zero
      rw [size_zeroCells, hzs]; exact h0
    simp [this]
  · rw [if_neg h0]
end
end Go.AK
