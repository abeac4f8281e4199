import Derived.Test.YtmhagleekhihoaaAK16
import Derived.OpenShut
import Derived.ChangeArms
namespace Go.AK
open Go Go.RowKit
set_option linter.unusedVariables false
/-- Fields one behind the other. -/
def tile : Nat → List (Nat × Nat) → List Nat → Bool
  | _, [], [] => true
  | o, (off, _) :: fs, z :: zs => Nat.beq off o && tile (o + z) fs zs
  | _, _, _ => false
/-- Lists of parts, one behind the other. -/
def WTs (W : Nat → List AV → Prop) : List Nat → List AV → Prop
  | [], xs => xs = []
  | t :: ts, xs => ∃ ys zs, xs = ys ++ zs ∧ W t ys ∧ WTs W ts zs
def szOf (T : TT) (t : Nat) : Nat := match tiOf T t with
  | some ti => ti.sz
  | none => 0
/-- The cells of a value of a type, as it comes in. -/
def WT (T : TT) : Nat → Nat → List AV → Prop
  | 0, _, _ => False
  | n + 1, t, xs => match tiOf T t with
    | none => False
    | some ti => match ti.d with
      | .int k => ∃ m, xs = [.i k m] ∧ (Lit.int k m).wf = true
      | .bool => ∃ b, xs = [.b b]
      | .str => ∃ s, xs = [.s s] ∧ s.size ≤ maxLen
      | .st fs => WTs (WT T n) (fs.map (·.2)) xs
      | .arr m e => WTs (WT T n) (List.replicate m e) xs
      | .sl e => ∃ m cs, xs = [.rs cs 0 (szOf T e) m] ∧ m ≤ maxLen ∧ WTs (WT T n) (List.replicate m e) cs
      | .ptr e => xs = [.p none] ∨ ∃ cs, xs = [.rp cs 0] ∧ WT T n e cs
      | _ => False
/-- Types that the opener takes. -/
def okT (T : TT) : Nat → Nat → Bool
  | 0, _ => true
  | n + 1, t => match tiOf T t with
    | none => false
    | some ti => match ti.d with
      | .int _ => Nat.beq ti.sz 1
      | .bool => Nat.beq ti.sz 1
      | .str => Nat.beq ti.sz 1
      | .st fs => tile 0 fs (fs.map fun f => szOf T f.2) && Nat.beq ((fs.map fun f => szOf T f.2).foldl (· + ·) 0) ti.sz && fs.all fun f => okT T n f.2
      | .arr m e => Nat.beq (m * szOf T e) ti.sz && okT T n e
      | .sl e => Nat.beq ti.sz 1 && Nat.ble 1 (szOf T e) && okT T n e
      | .ptr e => Nat.beq ti.sz 1 && Nat.ble 1 (szOf T e) && okT T n e
      | _ => false
/-- Nothing is written of what was there. -/
def E0 (w : World) : Env := ⟨[], fun g => w.heap[g]?⟩
theorem Rel.start (w : World) : Rel (E0 w) [] w :=
  ⟨rfl, fun j cs h => by simp at h, fun j cs h => by simp at h, fun j j' x x' ⟨b, h, _⟩ => by simp at h, fun j x h => by simp [E0] at h, fun g o h => h, fun j x ⟨b, h, _⟩ => by simp at h⟩
theorem VRL.app_inv {E : Env} : ∀ {xs ys : List AV} {vs : List Value}, VRL E (xs ++ ys) vs → VRL E xs (vs.take xs.length) ∧ VRL E ys (vs.drop xs.length)
  | [], ys, vs, h => ⟨by simp [VRL], by simpa using h⟩
  | x :: xs, ys, _, ⟨v, vs', h1, h2, h3⟩ => by
    subst h1
    obtain ⟨a, b⟩ := VRL.app_inv h3
    exact ⟨⟨v, _, by simp, h2, a⟩, by simpa using b⟩
section
variable {P : Program} {T : TT} {H : Type} {enc : TypeId × Value → H} {w : World}
theorem cells_at {a : Addr} {n : Nat} {cs : List Value} (h : w.cells? 0 a n = some cs) (hn : 0 < n) : ∃ c t fz, w.heap[a.block]? = some (.cells c t fz) ∧ a.spot = none ∧ (c.toList.drop a.off).take n = cs ∧ a.off + n ≤ c.size := by
  unfold World.cells? at h
  rw [if_pos (Nat.zero_le _)] at h
  have hl := mapM_some_length h
  simp only [List.length_range] at hl
  have h0 : ∀ i, i < n → w.cell? (a.add i) = cs[i]? := fun i hi => mapM_some_get h i i (by simp [hi])
  have hc0 := h0 0 hn
  rw [List.getElem?_eq_getElem (by omega)] at hc0
  have hadd0 : a.add 0 = a := by simp [Addr.add]
  rw [hadd0] at hc0
  unfold World.cell? at hc0
  split at hc0
  · rename_i c t fz hb
    split at hc0
    · cases hc0
    · rename_i hs
      have hsn : a.spot = none := by cases e : a.spot <;> simp_all
      have hcell : ∀ i, i < n → c[a.off + i]? = cs[i]? := fun i hi => by
        have := h0 i hi
        rw [← this]
        obtain ⟨g, o, s⟩ := a
        simp only at hsn hb
        subst hsn
        rw [add_zero_addr, cell_of hb]
      refine ⟨c, t, fz, hb, hsn, ?_, ?_⟩
      · apply List.ext_getElem?
        intro i
        by_cases hi : i < n
        · rw [List.getElem?_take, if_pos hi, List.getElem?_drop, ← hcell i hi]; simp
        · rw [List.getElem?_eq_none (by simp; omega), List.getElem?_eq_none (by omega)]
      · have := hcell (n - 1) (by omega)
        rw [List.getElem?_eq_getElem (by omega)] at this
        have := (Array.getElem?_eq_some_iff.mp this).1
        omega
  · cases hc0
theorem szOf_eq (hT : TOK P T) {t : Nat} {ti : TI} (h : tiOf T t = some ti) : szOf T t = ti.sz ∧ P.cellsOf t = ti.sz := by
  obtain ⟨i, z, h1, h2, _⟩ := hT.info h
  exact ⟨by simp [szOf, h], by simp [Program.cellsOf, h1, h2]⟩
theorem okT_some {n t : Nat} (h : okT T (n + 1) t = true) : ∃ ti, tiOf T t = some ti := by
  unfold okT at h
  split at h
  · cases h
  · exact ⟨_, by assumption⟩
theorem sum_foldl : ∀ (zs : List Nat) (a : Nat), zs.foldl (· + ·) a = a + zs.foldl (· + ·) 0
  | [], a => by simp
  | z :: zs, a => by
    simp only [List.foldl_cons]
    rw [sum_foldl zs (a + z), sum_foldl zs (0 + z)]; omega
theorem WTs_length {W : Nat → List AV → Prop} {z : Nat → Nat} (hW : ∀ t xs, W t xs → xs.length = z t) : ∀ {ts : List Nat} {xs : List AV}, WTs W ts xs → xs.length = (ts.map z).foldl (· + ·) 0
  | [], xs, h => by cases h; rfl
  | t :: ts, xs, ⟨ys, zs, h1, h2, h3⟩ => by
    subst h1
    rw [List.length_append, hW _ _ h2, WTs_length hW h3]
    simp only [List.map_cons, List.foldl_cons]
    rw [sum_foldl _ (0 + z t)]; omega
theorem sum_replicate (m z : Nat) : (List.replicate m z).foldl (· + ·) 0 = m * z := by
  induction m with
  | zero => simp
  | succ m ih => rw [List.replicate_succ, List.foldl_cons, sum_foldl, ih, Nat.succ_mul]; omega
/-- One behind the other. -/
theorem opened_seq {n : Nat} (ih : ∀ (t : Nat) (cells : List Value) (x : DataW H × List MemPlace), okT T n t = true → DataW.trod enc P w 0 (fun _ => true) true n t cells = some x → ∃ xs, VRL (E0 w) xs cells ∧ WT T n t xs ∧ xs.length = szOf T t) :
    ∀ (ts : List Nat) (cells : List Value) (off : Nat), (∀ t ∈ ts, okT T n t = true) → (∀ (i : Nat) t, ts[i]? = some t → ∃ x, DataW.trod enc P w 0 (fun _ => true) true n t ((cells.drop (off + ((ts.take i).map (szOf T)).foldl (· + ·) 0)).take (szOf T t)) = some x) →
      ∃ xs, VRL (E0 w) xs ((cells.drop off).take ((ts.map (szOf T)).foldl (· + ·) 0)) ∧ WTs (WT T n) ts xs ∧ xs.length = (ts.map (szOf T)).foldl (· + ·) 0
  | [], cells, off, _, _ => ⟨[], by simp [VRL], rfl, rfl⟩
  | t :: ts, cells, off, hok, h => by
    obtain ⟨x, hx⟩ := h 0 t rfl
    simp only [List.take_zero, List.map_nil, List.foldl_nil, Nat.add_zero] at hx
    obtain ⟨xs, h1, h2, h3⟩ := ih t _ x (hok t (by simp)) hx
    obtain ⟨ys, h4, h5, h6⟩ := opened_seq ih ts cells (off + szOf T t) (fun u hu => hok u (by simp [hu])) (fun i u hu => by
      obtain ⟨y, hy⟩ := h (i + 1) u (by simpa using hu)
      refine ⟨y, ?_⟩
      rw [← hy]
      congr 3
      simp only [List.take_succ_cons, List.map_cons, List.foldl_cons]
      rw [sum_foldl _ (0 + szOf T t)]; omega)
    have hl := h1.length
    refine ⟨xs ++ ys, ?_, ⟨xs, ys, rfl, h2, h5⟩, ?_⟩
    · have hsum : ((t :: ts).map (szOf T)).foldl (· + ·) 0 = szOf T t + (ts.map (szOf T)).foldl (· + ·) 0 := by
        simp only [List.map_cons, List.foldl_cons]; rw [sum_foldl]; omega
      rw [hsum, List.take_add, List.drop_drop]
      exact h1.append h4
    · simp only [List.map_cons, List.foldl_cons, List.length_append, h3, h6]; rw [sum_foldl _ (0 + szOf T t)]; omega
theorem tile_off : ∀ (fs : List (Nat × Nat)) (o i : Nat) (f : Nat × Nat), tile o fs (fs.map fun f => szOf T f.2) = true → fs[i]? = some f → f.1 = o + (((fs.map (·.2)).take i).map (szOf T)).foldl (· + ·) 0
  | [], _, _, _, _, h => by simp at h
  | (off, t) :: fs, o, 0, f, h, hf => by
    simp only [List.map_cons, tile, Bool.and_eq_true] at h
    simp at hf; subst hf
    simpa using Nat.eq_of_beq_eq_true h.1
  | (off, t) :: fs, o, i + 1, f, h, hf => by
    simp only [List.map_cons, tile, Bool.and_eq_true] at h
    have := tile_off fs (o + szOf T t) i f h.2 (by simpa using hf)
    rw [this]
    simp only [List.map_cons, List.take_succ_cons, List.foldl_cons]
    rw [sum_foldl _ (0 + szOf T t)]; omega
/-- What comes in, as values. -/
theorem opened (hT : TOK P T) : ∀ (fuel t : Nat) (cells : List Value) (x : DataW H × List MemPlace), okT T fuel t = true → DataW.trod enc P w 0 (fun _ => true) true fuel t cells = some x →
    ∃ xs, VRL (E0 w) xs cells ∧ WT T fuel t xs ∧ xs.length = szOf T t
  | 0, t, cells, x, _, h => by simp [DataW.trod] at h
  | n + 1, t, cells, x, hok, h => by
    obtain ⟨ti, ht⟩ := okT_some hok
    obtain ⟨u, hu, hd⟩ := hT.desc ht
    obtain ⟨hs1, hs2⟩ := szOf_eq hT ht
    have ih := opened hT n
    unfold okT at hok
    unfold WT
    rw [ht] at hok ⊢
    simp only at hok ⊢
    rw [hs1]
    generalize ti.d = D at hok hd ⊢
    cases D with
    | int k =>
      obtain rfl := desc_int hd
      obtain ⟨m, rfl, _, hw⟩ := DataW.trod_int hu h
      exact ⟨[.i k m], ⟨_, [], rfl, rfl, rfl⟩, ⟨m, rfl, hw⟩, (Nat.eq_of_beq_eq_true hok).symm⟩
    | bool =>
      obtain rfl := desc_bool hd
      obtain ⟨b, rfl, _⟩ := DataW.trod_bool hu h
      exact ⟨[.b b], ⟨_, [], rfl, rfl, rfl⟩, ⟨b, rfl⟩, (Nat.eq_of_beq_eq_true hok).symm⟩
    | str =>
      obtain rfl := desc_str hd
      obtain ⟨s, rfl, _, hl⟩ := DataW.trod_string hu h
      exact ⟨[.s s], ⟨_, [], rfl, rfl, rfl⟩, ⟨s, rfl, hl⟩, (Nat.eq_of_beq_eq_true hok).symm⟩
    | ptr e =>
      simp only [Bool.and_eq_true] at hok
      have he : u = .pointer e := by cases u <;> first | (simp [descB] at hd; rw [hd]) | cases hd
      subst he
      obtain ⟨te, hte⟩ : ∃ te, tiOf T e = some te := by
        have := Nat.le_of_ble_eq_true hok.1.2
        unfold szOf at this
        split at this
        · exact ⟨_, by assumption⟩
        · omega
      obtain ⟨hz1, hz2⟩ := szOf_eq hT hte
      have hpos := Nat.le_of_ble_eq_true hok.1.2
      rcases DataW.trod_pointer hu h with ⟨rfl, _⟩ | ⟨a, cs', y, m, hm, rfl, _, hcs, hy⟩
      · exact ⟨[.p none], ⟨_, [], rfl, rfl, rfl⟩, .inl rfl, (Nat.eq_of_beq_eq_true hok.1.1).symm⟩
      · cases hm
        obtain ⟨xs, h1, h2, h3⟩ := ih e cs' y hok.2 hy
        obtain ⟨c, t', fz, k1, k2, k3, k4⟩ := cells_at hcs (by omega)
        obtain ⟨g, of_, sp⟩ := a
        simp only at k1 k2 k3 k4
        subst k2
        refine ⟨[.rp xs 0], ⟨_, [], rfl, ⟨g, of_, c, t', fz, k1, rfl, ?_⟩, rfl⟩, .inr ⟨xs, rfl, h2⟩, (Nat.eq_of_beq_eq_true hok.1.1).symm⟩
        have := h1.pfx ((c.toList.drop of_).drop (P.cellsOf e))
        rw [← k3, List.take_append_drop] at this
        exact this
    | sl e =>
      simp only [Bool.and_eq_true] at hok
      obtain rfl := desc_sl hd
      obtain ⟨te, hte⟩ : ∃ te, tiOf T e = some te := by
        have := Nat.le_of_ble_eq_true hok.1.2
        unfold szOf at this
        split at this
        · exact ⟨_, by assumption⟩
        · omega
      obtain ⟨hz1, hz2⟩ := szOf_eq hT hte
      have hpos := Nat.le_of_ble_eq_true hok.1.2
      have hone := (Nat.eq_of_beq_eq_true hok.1.1).symm
      rcases DataW.trod_slice hu h with ⟨rfl, _⟩ | ⟨a, len, cap, elems, rest, m, hm, rfl, _, _, hlc, hcm, hel, hg, _, _⟩
      · exact ⟨[.rs [] 0 (szOf T e) 0], ⟨_, [], rfl, .inl ⟨rfl, _, _, rfl⟩, rfl⟩, ⟨0, [], rfl, Nat.zero_le _, rfl⟩, hone⟩
      · cases hm
        by_cases h0 : len = 0
        · subst h0
          exact ⟨[.rs [] 0 (szOf T e) 0], ⟨_, [], rfl, .inl ⟨rfl, _, _, rfl⟩, rfl⟩, ⟨0, [], rfl, Nat.zero_le _, rfl⟩, hone⟩
        · have hgi : ∀ i, i < len → ∃ cs y, w.cells? 0 (a.add (i * P.cellsOf e)) (P.cellsOf e) = some cs ∧ DataW.trod enc P w 0 (fun _ => true) true n e cs = some y := fun i hi => by
            have h1 := hg i hi
            rw [List.getElem?_eq_getElem (by omega)] at h1
            obtain ⟨cs, h2, h3⟩ := Option.bind_eq_some_iff.mp h1
            exact ⟨cs, _, h2, h3⟩
          obtain ⟨cs0, y0, h1, _⟩ := hgi 0 (by omega)
          have hadd0 : a.add (0 * P.cellsOf e) = a := by simp [Addr.add]
          rw [hadd0] at h1
          obtain ⟨c, t', fz, k1, k2, _, _⟩ := cells_at h1 (by omega)
          obtain ⟨g, of_, sp⟩ := a
          simp only at k1 k2
          subst k2
          have hseg : ∀ i, i < len → ∃ x, DataW.trod enc P w 0 (fun _ => true) true n e ((c.toList.drop (of_ + i * szOf T e)).take (szOf T e)) = some x := fun i hi => by
            obtain ⟨cs, y, h2, h3⟩ := hgi i hi
            rw [add_zero_addr] at h2
            obtain ⟨c', t'', fz', l1, _, l3, _⟩ := cells_at h2 (by omega)
            simp only at l1 l3
            rw [k1] at l1
            cases l1
            refine ⟨y, ?_⟩
            rw [hz1, ← hz2, l3]; exact h3
          obtain ⟨xs, m1, m2, m3⟩ := opened_seq ih (List.replicate len e) c.toList of_ (fun t ht => by rw [List.eq_of_mem_replicate ht]; exact hok.2) (fun i t hi => by
            rw [List.getElem?_replicate] at hi
            split at hi
            · rename_i hlt
              cases hi
              have e1 : (((List.replicate len e).take i).map (szOf T)).foldl (· + ·) 0 = i * szOf T e := by
                rw [List.take_replicate, List.map_replicate, sum_replicate, Nat.min_eq_left (by omega)]
              rw [e1]; exact hseg i hlt
            · cases hi)
          refine ⟨[.rs xs 0 (szOf T e) len], ⟨_, [], rfl, .inr ⟨g, of_, c, t', fz, cap, k1, rfl, hlc, ?_⟩, rfl⟩, ⟨len, xs, rfl, by omega, m2⟩, hone⟩
          have := m1.pfx ((c.toList.drop of_).drop (((List.replicate len e).map (szOf T)).foldl (· + ·) 0))
          rw [List.take_append_drop] at this
          exact this
    | arr m e =>
      simp only [Bool.and_eq_true] at hok
      obtain rfl := desc_arr hd
      have hsz := Nat.eq_of_beq_eq_true hok.1
      obtain ⟨xs0, m', hm, _, hl, hxl, hg⟩ := DataW.trod_array hu h
      cases hm
      have hce : P.cellsOf e = szOf T e ∨ m = 0 := by
        by_cases h0 : m = 0
        · exact .inr h0
        · refine .inl ?_
          cases n with
          | zero =>
            have h1 := hg 0 (by omega)
            rw [List.getElem?_eq_getElem (by omega)] at h1
            simp [DataW.trod] at h1
          | succ n =>
            obtain ⟨te, hte⟩ := okT_some hok.2
            obtain ⟨q1, q2⟩ := szOf_eq hT hte
            rw [q1, q2]
      obtain ⟨xs, m1, m2, m3⟩ := opened_seq ih (List.replicate m e) cells 0 (fun t ht => by rw [List.eq_of_mem_replicate ht]; exact hok.2) (fun i t hi => by
        rw [List.getElem?_replicate] at hi
        split at hi
        · rename_i hlt
          cases hi
          have e1 : (((List.replicate m e).take i).map (szOf T)).foldl (· + ·) 0 = i * szOf T e := by
            rw [List.take_replicate, List.map_replicate, sum_replicate, Nat.min_eq_left (by omega)]
          rcases hce with hce | h0
          · have h1 := hg i hlt
            rw [List.getElem?_eq_getElem (by omega)] at h1
            rw [e1, Nat.zero_add, ← hce]; exact ⟨_, h1⟩
          · omega
        · cases hi)
      have hsum : ((List.replicate m e).map (szOf T)).foldl (· + ·) 0 = ti.sz := by rw [List.map_replicate, sum_replicate, hsz]
      rw [hsum] at m1 m3
      rw [List.drop_zero, List.take_of_length_le (by omega)] at m1
      exact ⟨xs, m1, m2, m3⟩
    | st fs =>
      simp only [Bool.and_eq_true, List.all_eq_true] at hok
      obtain ⟨⟨htile, hsum⟩, hall⟩ := hok
      obtain ⟨gs, rfl, hfs⟩ := desc_st hd
      have hsz := Nat.eq_of_beq_eq_true hsum
      obtain ⟨xs0, m', hm, _, hl, hxl, hg⟩ := DataW.trod_struct hu h
      cases hm
      have hmm : (fs.map (·.2)).map (szOf T) = fs.map fun f => szOf T f.2 := by simp
      obtain ⟨xs, m1, m2, m3⟩ := opened_seq ih (fs.map (·.2)) cells 0 (fun t ht => by
          obtain ⟨f, hf, rfl⟩ := List.mem_map.mp ht
          exact hall f hf) (fun i t hi => by
        rw [List.getElem?_map] at hi
        obtain ⟨f, hf, rfl⟩ := Option.map_eq_some_iff.mp hi
        have hoff := tile_off fs 0 i f htile hf
        have hf' := hf
        rw [hfs, List.getElem?_map] at hf'
        obtain ⟨fd, hfd, hfe⟩ := Option.map_eq_some_iff.mp hf'
        have hgi := hg i fd (by simpa using hfd)
        have hil : i < xs0.length := by
          have := (List.getElem?_eq_some_iff.mp hfd).1
          rw [hxl]; simpa using this
        rw [List.getElem?_eq_getElem hil] at hgi
        have hft : f.2 = fd.type := by rw [← hfe]
        have hfo : f.1 = fd.offset := by rw [← hfe]
        have hce : P.cellsOf fd.type = szOf T f.2 := by
          cases n with
          | zero => simp [DataW.trod] at hgi
          | succ n =>
            obtain ⟨te, hte⟩ := okT_some (hall f (List.mem_of_getElem? hf))
            obtain ⟨q1, q2⟩ := szOf_eq hT hte
            rw [q1, ← hft, q2]
        rw [← hoff, hfo, ← hce, hft]
        exact ⟨_, hgi⟩)
      rw [hmm, hsz] at m1 m3
      rw [List.drop_zero, List.take_of_length_le (by omega)] at m1
      exact ⟨xs, m1, m2, m3⟩
    | fn => cases hok
    | ifc => cases hok
    | mp _ _ => cases hok
end
end Go.AK
