/- Texts AK17, AK18, AK19, AK20, AK21, AK22, AK23, AK24, AK25, AK26, AK27, AK28, AK29, AK30: an evaluator of the model's code, proved sound, and what the program's functions do, for all inputs. -/
import Derived.Test.YtgedgleipefinaaDoorMA1
import Derived.OpenShut
import Derived.ChangeArms
import Derived.OrdersHeld
import Derived.Below
import Derived.WideShapes
import Derived.Laws.StructEq
import Derived.ChangeKeysEq
import Derived.Lib.Overlaps
import Derived.LoopN
import Derived.Defers
import Derived.Recover
set_option linter.unusedVariables false
set_option linter.unusedSimpArgs false
set_option linter.unusedSectionVars false
namespace Go.AK
open Go Go.RowKit
set_option linter.unusedSectionVars false
variable [Globs]
set_option linter.unusedVariables false
/-- Fields one behind the other. -/
def tile : Nat → List (Nat × Nat) → List Nat → Bool
  | _, [], [] => true
  | o, (off, _) :: fs, z :: zs => Nat.beq off o && tile (o + z) fs zs
  | _, _, _ => false
/-- Lists of parts, one behind the other. -/
def WTs (W : Nat → List AV → Prop) : List Nat → List AV → Prop
  | [], xs => xs = []
  | t :: ts, xs => ∃ ys zs, xs = ys ++ zs ∧ W t ys ∧ WTs W ts zs
def szOf (T : TT) (t : Nat) : Nat := match tiOf T t with
  | some ti => ti.sz
  | none => 0
/-- The cells of a value of a type, as it comes in. -/
def WT (T : TT) : Nat → Nat → List AV → Prop
  | 0, _, _ => False
  | n + 1, t, xs => match tiOf T t with
    | none => False
    | some ti => match ti.d with
      | .int k => ∃ m, xs = [.i k m] ∧ (Lit.int k m).wf = true
      | .bool => ∃ b, xs = [.b b]
      | .str => ∃ s, xs = [.s s] ∧ s.size ≤ maxLen
      | .st fs => WTs (WT T n) (fs.map (·.2)) xs
      | .arr m e => WTs (WT T n) (List.replicate m e) xs
      | .sl e => ∃ m cs, xs = [.rs cs 0 (szOf T e) m] ∧ m ≤ maxLen ∧ WTs (WT T n) (List.replicate m e) cs
      | .ptr e => xs = [.p none] ∨ ∃ cs, xs = [.rp cs 0] ∧ WT T n e cs
      | _ => False
/-- Types that the opener takes. -/
def okT (T : TT) : Nat → Nat → Bool
  | 0, _ => true
  | n + 1, t => match tiOf T t with
    | none => false
    | some ti => match ti.d with
      | .int _ => Nat.beq ti.sz 1
      | .bool => Nat.beq ti.sz 1
      | .str => Nat.beq ti.sz 1
      | .st fs => tile 0 fs (fs.map fun f => szOf T f.2) && Nat.beq ((fs.map fun f => szOf T f.2).foldl (· + ·) 0) ti.sz && fs.all fun f => okT T n f.2
      | .arr m e => Nat.beq (m * szOf T e) ti.sz && okT T n e
      | .sl e => Nat.beq ti.sz 1 && Nat.ble 1 (szOf T e) && okT T n e
      | .ptr e => Nat.beq ti.sz 1 && Nat.ble 1 (szOf T e) && okT T n e
      | _ => false
/-- Nothing is written of what was there. -/
def E0 (w : World) : Env := ⟨[], fun g => w.heap[g]?⟩
theorem Rel.start (w : World) (hg : Globs.ok fun g => w.heap[g]?) : Rel (E0 w) [] w :=
  ⟨rfl, fun j cs h => by simp at h, fun j cs h => by simp at h, fun j j' x x' ⟨b, h, _⟩ => by simp at h, fun j x h => by simp [E0] at h, fun g o h => h, fun j x ⟨b, h, _⟩ => by simp at h, hg⟩
theorem VRL.app_inv {E : Env} : ∀ {xs ys : List AV} {vs : List Value}, VRL E (xs ++ ys) vs → VRL E xs (vs.take xs.length) ∧ VRL E ys (vs.drop xs.length)
  | [], ys, vs, h => ⟨by simp [VRL], by simpa using h⟩
  | x :: xs, ys, _, ⟨v, vs', h1, h2, h3⟩ => by
    subst h1
    obtain ⟨a, b⟩ := VRL.app_inv h3
    exact ⟨⟨v, _, by simp, h2, a⟩, by simpa using b⟩
section
variable {P : Program} {T : TT} {H : Type} {enc : TypeId × Value → H} {w : World}
theorem cells_at {a : Addr} {n : Nat} {cs : List Value} (h : w.cells? 0 a n = some cs) (hn : 0 < n) : ∃ c t fz, w.heap[a.block]? = some (.cells c t fz) ∧ a.spot = none ∧ (c.toList.drop a.off).take n = cs ∧ a.off + n ≤ c.size := by
  unfold World.cells? at h
  rw [if_pos (Nat.zero_le _)] at h
  have hl := mapM_some_length h
  simp only [List.length_range] at hl
  have h0 : ∀ i, i < n → w.cell? (a.add i) = cs[i]? := fun i hi => mapM_some_get h i i (by simp [hi])
  have hc0 := h0 0 hn
  rw [List.getElem?_eq_getElem (by omega)] at hc0
  have hadd0 : a.add 0 = a := by simp [Addr.add]
  rw [hadd0] at hc0
  unfold World.cell? at hc0
  split at hc0
  · rename_i c t fz hb
    split at hc0
    · cases hc0
    · rename_i hs
      have hsn : a.spot = none := by cases e : a.spot <;> simp_all
      have hcell : ∀ i, i < n → c[a.off + i]? = cs[i]? := fun i hi => by
        have := h0 i hi
        rw [← this]
        obtain ⟨g, o, s⟩ := a
        simp only at hsn hb
        subst hsn
        rw [add_zero_addr, cell_of hb]
      refine ⟨c, t, fz, hb, hsn, ?_, ?_⟩
      · apply List.ext_getElem?
        intro i
        by_cases hi : i < n
        · rw [List.getElem?_take, if_pos hi, List.getElem?_drop, ← hcell i hi]; simp
        · rw [List.getElem?_eq_none (by simp; omega), List.getElem?_eq_none (by omega)]
      · have := hcell (n - 1) (by omega)
        rw [List.getElem?_eq_getElem (by omega)] at this
        have := (Array.getElem?_eq_some_iff.mp this).1
        omega
  · cases hc0
theorem szOf_eq (hT : TOK P T) {t : Nat} {ti : TI} (h : tiOf T t = some ti) : szOf T t = ti.sz ∧ P.cellsOf t = ti.sz := by
  obtain ⟨i, z, h1, h2, _⟩ := hT.info h
  exact ⟨by simp [szOf, h], by simp [Program.cellsOf, h1, h2]⟩
theorem okT_some {n t : Nat} (h : okT T (n + 1) t = true) : ∃ ti, tiOf T t = some ti := by
  unfold okT at h
  split at h
  · cases h
  · exact ⟨_, by assumption⟩
theorem sum_foldl : ∀ (zs : List Nat) (a : Nat), zs.foldl (· + ·) a = a + zs.foldl (· + ·) 0
  | [], a => by simp
  | z :: zs, a => by
    simp only [List.foldl_cons]
    rw [sum_foldl zs (a + z), sum_foldl zs (0 + z)]; omega
theorem WTs_length {W : Nat → List AV → Prop} {z : Nat → Nat} (hW : ∀ t xs, W t xs → xs.length = z t) : ∀ {ts : List Nat} {xs : List AV}, WTs W ts xs → xs.length = (ts.map z).foldl (· + ·) 0
  | [], xs, h => by cases h; rfl
  | t :: ts, xs, ⟨ys, zs, h1, h2, h3⟩ => by
    subst h1
    rw [List.length_append, hW _ _ h2, WTs_length hW h3]
    simp only [List.map_cons, List.foldl_cons]
    rw [sum_foldl _ (0 + z t)]; omega
theorem sum_replicate (m z : Nat) : (List.replicate m z).foldl (· + ·) 0 = m * z := by
  induction m with
  | zero => simp
  | succ m ih => rw [List.replicate_succ, List.foldl_cons, sum_foldl, ih, Nat.succ_mul]; omega
/-- One behind the other. -/
theorem opened_seq {n : Nat} (ih : ∀ (t : Nat) (cells : List Value) (x : DataW H × List MemPlace), okT T n t = true → DataW.trod enc P w 0 (fun _ => true) true n t cells = some x → ∃ xs, VRL (E0 w) xs cells ∧ WT T n t xs ∧ xs.length = szOf T t) :
    ∀ (ts : List Nat) (cells : List Value) (off : Nat), (∀ t ∈ ts, okT T n t = true) → (∀ (i : Nat) t, ts[i]? = some t → ∃ x, DataW.trod enc P w 0 (fun _ => true) true n t ((cells.drop (off + ((ts.take i).map (szOf T)).foldl (· + ·) 0)).take (szOf T t)) = some x) →
      ∃ xs, VRL (E0 w) xs ((cells.drop off).take ((ts.map (szOf T)).foldl (· + ·) 0)) ∧ WTs (WT T n) ts xs ∧ xs.length = (ts.map (szOf T)).foldl (· + ·) 0
  | [], cells, off, _, _ => ⟨[], by simp [VRL], rfl, rfl⟩
  | t :: ts, cells, off, hok, h => by
    obtain ⟨x, hx⟩ := h 0 t rfl
    simp only [List.take_zero, List.map_nil, List.foldl_nil, Nat.add_zero] at hx
    obtain ⟨xs, h1, h2, h3⟩ := ih t _ x (hok t (by simp)) hx
    obtain ⟨ys, h4, h5, h6⟩ := opened_seq ih ts cells (off + szOf T t) (fun u hu => hok u (by simp [hu])) (fun i u hu => by
      obtain ⟨y, hy⟩ := h (i + 1) u (by simpa using hu)
      refine ⟨y, ?_⟩
      rw [← hy]
      congr 3
      simp only [List.take_succ_cons, List.map_cons, List.foldl_cons]
      rw [sum_foldl _ (0 + szOf T t)]; omega)
    have hl := h1.length
    refine ⟨xs ++ ys, ?_, ⟨xs, ys, rfl, h2, h5⟩, ?_⟩
    · have hsum : ((t :: ts).map (szOf T)).foldl (· + ·) 0 = szOf T t + (ts.map (szOf T)).foldl (· + ·) 0 := by
        simp only [List.map_cons, List.foldl_cons]; rw [sum_foldl]; omega
      rw [hsum, List.take_add, List.drop_drop]
      exact h1.append h4
    · simp only [List.map_cons, List.foldl_cons, List.length_append, h3, h6]; rw [sum_foldl _ (0 + szOf T t)]; omega
theorem tile_off : ∀ (fs : List (Nat × Nat)) (o i : Nat) (f : Nat × Nat), tile o fs (fs.map fun f => szOf T f.2) = true → fs[i]? = some f → f.1 = o + (((fs.map (·.2)).take i).map (szOf T)).foldl (· + ·) 0
  | [], _, _, _, _, h => by simp at h
  | (off, t) :: fs, o, 0, f, h, hf => by
    simp only [List.map_cons, tile, Bool.and_eq_true] at h
    simp at hf; subst hf
    simpa using Nat.eq_of_beq_eq_true h.1
  | (off, t) :: fs, o, i + 1, f, h, hf => by
    simp only [List.map_cons, tile, Bool.and_eq_true] at h
    have := tile_off fs (o + szOf T t) i f h.2 (by simpa using hf)
    rw [this]
    simp only [List.map_cons, List.take_succ_cons, List.foldl_cons]
    rw [sum_foldl _ (0 + szOf T t)]; omega
/-- What comes in, as values. -/
theorem opened (hT : TOK P T) : ∀ (fuel t : Nat) (cells : List Value) (x : DataW H × List MemPlace), okT T fuel t = true → DataW.trod enc P w 0 (fun _ => true) true fuel t cells = some x →
    ∃ xs, VRL (E0 w) xs cells ∧ WT T fuel t xs ∧ xs.length = szOf T t
  | 0, t, cells, x, _, h => by simp [DataW.trod] at h
  | n + 1, t, cells, x, hok, h => by
    obtain ⟨ti, ht⟩ := okT_some hok
    obtain ⟨u, hu, hd⟩ := hT.desc ht
    obtain ⟨hs1, hs2⟩ := szOf_eq hT ht
    have ih := opened hT n
    unfold okT at hok
    unfold WT
    rw [ht] at hok ⊢
    simp only at hok ⊢
    rw [hs1]
    generalize ti.d = D at hok hd ⊢
    cases D with
    | int k =>
      obtain rfl := desc_int hd
      obtain ⟨m, rfl, _, hw⟩ := DataW.trod_int hu h
      exact ⟨[.i k m], ⟨_, [], rfl, rfl, rfl⟩, ⟨m, rfl, hw⟩, (Nat.eq_of_beq_eq_true hok).symm⟩
    | bool =>
      obtain rfl := desc_bool hd
      obtain ⟨b, rfl, _⟩ := DataW.trod_bool hu h
      exact ⟨[.b b], ⟨_, [], rfl, rfl, rfl⟩, ⟨b, rfl⟩, (Nat.eq_of_beq_eq_true hok).symm⟩
    | str =>
      obtain rfl := desc_str hd
      obtain ⟨s, rfl, _, hl⟩ := DataW.trod_string hu h
      exact ⟨[.s s], ⟨_, [], rfl, rfl, rfl⟩, ⟨s, rfl, hl⟩, (Nat.eq_of_beq_eq_true hok).symm⟩
    | ptr e =>
      simp only [Bool.and_eq_true] at hok
      have he : u = .pointer e := by cases u <;> first | (simp [descB] at hd; rw [hd]) | cases hd
      subst he
      obtain ⟨te, hte⟩ : ∃ te, tiOf T e = some te := by
        have := Nat.le_of_ble_eq_true hok.1.2
        unfold szOf at this
        split at this
        · exact ⟨_, by assumption⟩
        · omega
      obtain ⟨hz1, hz2⟩ := szOf_eq hT hte
      have hpos := Nat.le_of_ble_eq_true hok.1.2
      rcases DataW.trod_pointer hu h with ⟨rfl, _⟩ | ⟨a, cs', y, m, hm, rfl, _, hcs, hy⟩
      · exact ⟨[.p none], ⟨_, [], rfl, rfl, rfl⟩, .inl rfl, (Nat.eq_of_beq_eq_true hok.1.1).symm⟩
      · cases hm
        obtain ⟨xs, h1, h2, h3⟩ := ih e cs' y hok.2 hy
        obtain ⟨c, t', fz, k1, k2, k3, k4⟩ := cells_at hcs (by omega)
        obtain ⟨g, of_, sp⟩ := a
        simp only at k1 k2 k3 k4
        subst k2
        refine ⟨[.rp xs 0], ⟨_, [], rfl, ⟨g, of_, c, t', fz, k1, rfl, ?_⟩, rfl⟩, .inr ⟨xs, rfl, h2⟩, (Nat.eq_of_beq_eq_true hok.1.1).symm⟩
        have := h1.pfx ((c.toList.drop of_).drop (P.cellsOf e))
        rw [← k3, List.take_append_drop] at this
        exact this
    | sl e =>
      simp only [Bool.and_eq_true] at hok
      obtain rfl := desc_sl hd
      obtain ⟨te, hte⟩ : ∃ te, tiOf T e = some te := by
        have := Nat.le_of_ble_eq_true hok.1.2
        unfold szOf at this
        split at this
        · exact ⟨_, by assumption⟩
        · omega
      obtain ⟨hz1, hz2⟩ := szOf_eq hT hte
      have hpos := Nat.le_of_ble_eq_true hok.1.2
      have hone := (Nat.eq_of_beq_eq_true hok.1.1).symm
      rcases DataW.trod_slice hu h with ⟨rfl, _⟩ | ⟨a, len, cap, elems, rest, m, hm, rfl, _, _, hlc, hcm, hel, hg, _, _⟩
      · exact ⟨[.rs [] 0 (szOf T e) 0], ⟨_, [], rfl, .inl ⟨rfl, _, _, rfl⟩, rfl⟩, ⟨0, [], rfl, Nat.zero_le _, rfl⟩, hone⟩
      · cases hm
        by_cases h0 : len = 0
        · subst h0
          exact ⟨[.rs [] 0 (szOf T e) 0], ⟨_, [], rfl, .inl ⟨rfl, _, _, rfl⟩, rfl⟩, ⟨0, [], rfl, Nat.zero_le _, rfl⟩, hone⟩
        · have hgi : ∀ i, i < len → ∃ cs y, w.cells? 0 (a.add (i * P.cellsOf e)) (P.cellsOf e) = some cs ∧ DataW.trod enc P w 0 (fun _ => true) true n e cs = some y := fun i hi => by
            have h1 := hg i hi
            rw [List.getElem?_eq_getElem (by omega)] at h1
            obtain ⟨cs, h2, h3⟩ := Option.bind_eq_some_iff.mp h1
            exact ⟨cs, _, h2, h3⟩
          obtain ⟨cs0, y0, h1, _⟩ := hgi 0 (by omega)
          have hadd0 : a.add (0 * P.cellsOf e) = a := by simp [Addr.add]
          rw [hadd0] at h1
          obtain ⟨c, t', fz, k1, k2, _, _⟩ := cells_at h1 (by omega)
          obtain ⟨g, of_, sp⟩ := a
          simp only at k1 k2
          subst k2
          have hseg : ∀ i, i < len → ∃ x, DataW.trod enc P w 0 (fun _ => true) true n e ((c.toList.drop (of_ + i * szOf T e)).take (szOf T e)) = some x := fun i hi => by
            obtain ⟨cs, y, h2, h3⟩ := hgi i hi
            rw [add_zero_addr] at h2
            obtain ⟨c', t'', fz', l1, _, l3, _⟩ := cells_at h2 (by omega)
            simp only at l1 l3
            rw [k1] at l1
            cases l1
            refine ⟨y, ?_⟩
            rw [hz1, ← hz2, l3]; exact h3
          obtain ⟨xs, m1, m2, m3⟩ := opened_seq ih (List.replicate len e) c.toList of_ (fun t ht => by rw [List.eq_of_mem_replicate ht]; exact hok.2) (fun i t hi => by
            rw [List.getElem?_replicate] at hi
            split at hi
            · rename_i hlt
              cases hi
              have e1 : (((List.replicate len e).take i).map (szOf T)).foldl (· + ·) 0 = i * szOf T e := by
                rw [List.take_replicate, List.map_replicate, sum_replicate, Nat.min_eq_left (by omega)]
              rw [e1]; exact hseg i hlt
            · cases hi)
          refine ⟨[.rs xs 0 (szOf T e) len], ⟨_, [], rfl, .inr ⟨g, of_, c, t', fz, cap, k1, rfl, hlc, ?_⟩, rfl⟩, ⟨len, xs, rfl, by omega, m2⟩, hone⟩
          have := m1.pfx ((c.toList.drop of_).drop (((List.replicate len e).map (szOf T)).foldl (· + ·) 0))
          rw [List.take_append_drop] at this
          exact this
    | arr m e =>
      simp only [Bool.and_eq_true] at hok
      obtain rfl := desc_arr hd
      have hsz := Nat.eq_of_beq_eq_true hok.1
      obtain ⟨xs0, m', hm, _, hl, hxl, hg⟩ := DataW.trod_array hu h
      cases hm
      have hce : P.cellsOf e = szOf T e ∨ m = 0 := by
        by_cases h0 : m = 0
        · exact .inr h0
        · refine .inl ?_
          cases n with
          | zero =>
            have h1 := hg 0 (by omega)
            rw [List.getElem?_eq_getElem (by omega)] at h1
            simp [DataW.trod] at h1
          | succ n =>
            obtain ⟨te, hte⟩ := okT_some hok.2
            obtain ⟨q1, q2⟩ := szOf_eq hT hte
            rw [q1, q2]
      obtain ⟨xs, m1, m2, m3⟩ := opened_seq ih (List.replicate m e) cells 0 (fun t ht => by rw [List.eq_of_mem_replicate ht]; exact hok.2) (fun i t hi => by
        rw [List.getElem?_replicate] at hi
        split at hi
        · rename_i hlt
          cases hi
          have e1 : (((List.replicate m e).take i).map (szOf T)).foldl (· + ·) 0 = i * szOf T e := by
            rw [List.take_replicate, List.map_replicate, sum_replicate, Nat.min_eq_left (by omega)]
          rcases hce with hce | h0
          · have h1 := hg i hlt
            rw [List.getElem?_eq_getElem (by omega)] at h1
            rw [e1, Nat.zero_add, ← hce]; exact ⟨_, h1⟩
          · omega
        · cases hi)
      have hsum : ((List.replicate m e).map (szOf T)).foldl (· + ·) 0 = ti.sz := by rw [List.map_replicate, sum_replicate, hsz]
      rw [hsum] at m1 m3
      rw [List.drop_zero, List.take_of_length_le (by omega)] at m1
      exact ⟨xs, m1, m2, m3⟩
    | st fs =>
      simp only [Bool.and_eq_true, List.all_eq_true] at hok
      obtain ⟨⟨htile, hsum⟩, hall⟩ := hok
      obtain ⟨gs, rfl, hfs⟩ := desc_st hd
      have hsz := Nat.eq_of_beq_eq_true hsum
      obtain ⟨xs0, m', hm, _, hl, hxl, hg⟩ := DataW.trod_struct hu h
      cases hm
      have hmm : (fs.map (·.2)).map (szOf T) = fs.map fun f => szOf T f.2 := by simp
      obtain ⟨xs, m1, m2, m3⟩ := opened_seq ih (fs.map (·.2)) cells 0 (fun t ht => by
          obtain ⟨f, hf, rfl⟩ := List.mem_map.mp ht
          exact hall f hf) (fun i t hi => by
        rw [List.getElem?_map] at hi
        obtain ⟨f, hf, rfl⟩ := Option.map_eq_some_iff.mp hi
        have hoff := tile_off fs 0 i f htile hf
        have hf' := hf
        rw [hfs, List.getElem?_map] at hf'
        obtain ⟨fd, hfd, hfe⟩ := Option.map_eq_some_iff.mp hf'
        have hgi := hg i fd (by simpa using hfd)
        have hil : i < xs0.length := by
          have := (List.getElem?_eq_some_iff.mp hfd).1
          rw [hxl]; simpa using this
        rw [List.getElem?_eq_getElem hil] at hgi
        have hft : f.2 = fd.type := by rw [← hfe]
        have hfo : f.1 = fd.offset := by rw [← hfe]
        have hce : P.cellsOf fd.type = szOf T f.2 := by
          cases n with
          | zero => simp [DataW.trod] at hgi
          | succ n =>
            obtain ⟨te, hte⟩ := okT_some (hall f (List.mem_of_getElem? hf))
            obtain ⟨q1, q2⟩ := szOf_eq hT hte
            rw [q1, ← hft, q2]
        rw [← hoff, hfo, ← hce, hft]
        exact ⟨_, hgi⟩)
      rw [hmm, hsz] at m1 m3
      rw [List.drop_zero, List.take_of_length_le (by omega)] at m1
      exact ⟨xs, m1, m2, m3⟩
    | fn => cases hok
    | ifc => cases hok
    | mp _ _ => cases hok
end
end Go.AK
namespace Go.AK
open Go Go.RowKit
set_option linter.unusedSectionVars false
variable [Globs] [Defs]
set_option linter.unusedVariables false
/-! Regions of which the order is drawn. Operations that only look may be taken first, as long as nothing was done that may turn what they look at. -/
section
variable {P : Program} {ops : Array Oper} {Q : Exit → Act → World → Prop} {md : Region.Mode}
def noBrk (brk : Nat → Bool) (listed : Array Bool) : Prop := ∀ j, brk j = true → listed.getD j false = false
structure Sf (brk : Nat → Bool) (S1 S2 : World → Prop) (listed : Array Bool) (w : World) : Prop where
  one : S1 w
  two : noBrk brk listed → S2 w
variable {brk : Nat → Bool} {S1 S2 : World → Prop}
theorem Sf.add {listed : Array Bool} {w : World} (h : Sf brk S1 S2 listed w) (i : Nat) : Sf brk S1 S2 (listed.setIfInBounds i true) w :=
  ⟨h.one, fun hb => h.two fun j hj => by
    have := hb j hj
    cases hl : listed.getD j false with
    | false => rfl
    | true => rw [getD_set_true hl] at this; cases this⟩
theorem Sf.del {listed : Array Bool} {w : World} {i : Nat} (hi : brk i = false) (h : Sf brk S1 S2 (listed.setIfInBounds i true) w) : Sf brk S1 S2 listed w :=
  ⟨h.one, fun hb => h.two fun j hj => by
    have hne : i ≠ j := fun e => by subst e; rw [hi] at hj; cases hj
    rw [getD_set_ne false hne]; exact hb j hj⟩
def wpAnyB (P : Program) (md : Region.Mode) (ops : Array Oper) (Q : Exit → Act → World → Prop) (brk : Nat → Bool) (S1 S2 : World → Prop) : Nat → Array Bool → Act → World → Prop
  | 0, listed, a, w => Region.ready md ops listed = [] ∧ Q .normal a w
  | fuel + 1, listed, a, w =>
    (Region.ready md ops listed = [] → Q .normal a w) ∧
    ∀ i ∈ Region.ready md ops listed, wpOp P ops Q i (fun a' w' => Sf brk S1 S2 (listed.setIfInBounds i true) w' ∧ wpAnyB P md ops Q brk S1 S2 fuel (listed.setIfInBounds i true) a' w') a w
theorem wpAny_of_B : ∀ (fuel : Nat) (listed : Array Bool) (a : Act) (w : World), wpAnyB P md ops Q brk S1 S2 fuel listed a w → wpAny P md ops Q fuel listed a w
  | 0, _, _, _, h => h
  | fuel + 1, _, _, _, h => ⟨h.1, fun i hi => wpOp_mono (fun a' w' h' => wpAny_of_B fuel _ a' w' h'.2) (h.2 i hi)⟩
theorem wpAnyB_first {i : Nat} {oi : Oper} {v : Value} {W : List Nat} {X : World → Prop} (hi : ops[i]? = some oi) (hsel : ∀ (j : Nat) (o : Oper) cs b, ops[j]? = some o → o.op ≠ .select cs b)
    (hQ : ∀ c a w, Q (.panic c) (a.put oi.dst v) w → Q (.panic c) a w)
    (hW : ∀ j ∈ W, ∃ oj, ops[j]? = some oj ∧ ∃ e ∈ oj.after, Region.binds md e = true ∧ (e.on = i ∨ e.on ∈ W)) (hb : brk i = false)
    (hX : ∀ listed' w', (∀ j ∈ W, listed'.getD j false = false) → Sf brk S1 S2 listed' w' → X w') :
    ∀ (fuel : Nat) (listed : Array Bool) (a : Act) (w : World),
      (∀ j oj, ops[j]? = some oj → j ≠ i → listed.getD j true = false → (∀ e ∈ oj.after, Region.binds md e = true → e.on ≠ i) → oi.apart ops oj = true) →
      i ∈ Region.ready md ops listed → (∀ j ∈ W, listed.getD j false = false) → YieldsIf P ops X oi v a → Sf brk S1 S2 listed w →
      wpAnyB P md ops Q brk S1 S2 fuel (listed.setIfInBounds i true) (a.put oi.dst v) w → wpAnyB P md ops Q brk S1 S2 (fuel + 1) listed a w := by
  intro fuel
  induction fuel with
  | zero =>
    intro listed a w _ hr hWl hy hS H
    refine ⟨fun h => (by rw [h] at hr; cases hr), fun j hj => ?_⟩
    by_cases hji : j = i
    · subst hji; exact hy.wpOp hi (hX _ _ hWl hS) ⟨hS.add _, H⟩
    · have := ready_mono hj hji
      rw [H.1] at this
      cases this
  | succ fuel ih =>
    intro listed a w hfree hr hWl hy hS H
    refine ⟨fun h => (by rw [h] at hr; cases hr), fun j hj => ?_⟩
    by_cases hji : j = i
    · subst hji; exact hy.wpOp hi (hX _ _ hWl hS) ⟨hS.add _, H⟩
    · have h1 := H.2 j (ready_mono hj hji)
      obtain ⟨hjun, oj, hoj, hall⟩ := mem_ready.1 hj
      have hi0 : listed.getD i false = false := by
        have h0 := (mem_ready.1 hr).1
        rcases Nat.lt_or_ge i listed.size with h' | h'
        · simpa [h'] using h0
        · simp [Array.getElem?_eq_none h'] at h0
      have hnot : ∀ e ∈ oj.after, Region.binds md e = true → e.on ≠ i := fun e he hb heq => by
        have h1 := hall e he hb
        rw [heq, hi0] at h1; cases h1
      have hjW : j ∉ W := fun hjW => by
        obtain ⟨oj', hoj', e, he, heb, hon⟩ := hW j hjW
        rw [hoj] at hoj'; cases hoj'
        have h1 := hall e he heb
        rcases hon with hon | hon
        · rw [hon, hi0] at h1; cases h1
        · rw [hWl _ hon] at h1; cases h1
      have h2 := wpOp_putIf hoj (hfree j oj hoj hji hjun hnot) (fun cs b => hsel i oi cs b hi) (fun cs b => hsel j oj cs b hoj) hQ hy h1
      have hfree' : ∀ k ok, ops[k]? = some ok → k ≠ i → (listed.setIfInBounds j true).getD k true = false →
          (∀ e ∈ ok.after, Region.binds md e = true → e.on ≠ i) → oi.apart ops ok = true := fun k ok hk hki hun hno => by
        refine hfree k ok hk hki ?_ hno
        by_cases hjk : j = k
        · subst hjk; exact hjun
        · rw [getD_set_ne true hjk] at hun; exact hun
      have hWl' : ∀ k ∈ W, (listed.setIfInBounds j true).getD k false = false := fun k hk => by
        have hne : j ≠ k := fun e => hjW (by rw [e]; exact hk)
        rw [getD_set_ne false hne]; exact hWl k hk
      refine wpOp_mono (fun a' w' h3 => ?_) h2
      have h4 : Sf brk S1 S2 (listed.setIfInBounds j true) w' := by
        have h5 := h3.2.1
        rw [Array.setIfInBounds_comm _ _ (Ne.symm hji)] at h5
        exact h5.del hb
      refine ⟨h4, ih (listed.setIfInBounds j true) a' w' hfree' (ready_mono hr (Ne.symm hji)) hWl' h3.1 h4 ?_⟩
      rw [Array.setIfInBounds_comm _ _ hji]
      exact h3.2.2
end
end Go.AK
namespace Go.AK
open Go Go.RowKit
set_option linter.unusedSectionVars false
variable [Globs] [Defs]
set_option linter.unusedVariables false
/-- Kinds of operations that only look. -/
def silK : Op → Bool
  | .move _ | .assign _ | .pick .. | .nilCheck _ | .build .. | .load .. | .binOp .. | .unOp .. | .convert .. | .makeFunc .. | .makeInterface .. | .slice .. | .fieldAddr .. | .field .. | .indexAddr .. | .index .. | .extract .. => true
  | .call c => (match c.callee with | .builtin .len => true | _ => false)
  | _ => false
def isLd : Op → Bool
  | .load .. => true
  | _ => false
def brkI (ops : Array Oper) (j : Nat) : Bool := match ops[j]? with
  | some o => !silK o.op
  | none => false
/-- Those that wait for number i, at once or behind others. -/
def waits (ops : Array Oper) (i : Nat) : List Nat :=
  (List.range ops.size).foldl (fun W j => match ops[j]? with
    | some o => if o.after.any fun e => Region.binds .any e && (e.on == i || W.contains e.on) then j :: W else W
    | none => W) []
def wOK (ops : Array Oper) (listed : Array Bool) (i : Nat) (W : List Nat) : Bool :=
  (W.all fun j => (match ops[j]? with
    | some o => o.after.any fun e => Region.binds .any e && (e.on == i || W.contains e.on)
    | none => false) && !listed.getD j false) && (List.range ops.size).all fun j => !brkI ops j || W.contains j
def chkPre (ops : Array Oper) (soft : List Nat) : Array Bool → List Nat → Option (Array Bool)
  | listed, [] => some listed
  | listed, i :: π => match ops[i]? with
    | some o => if silK o.op && (Region.ready .any ops listed).contains i && Region.free .any ops listed i && (!(isLd o.op && !soft.contains i) || wOK ops listed i (waits ops i)) then chkPre ops soft (listed.setIfInBounds i true) π else none
    | none => none
def chkPost (ops : Array Oper) : Array Bool → List Nat → Bool
  | listed, [] => Region.ready .any ops listed == []
  | listed, i :: π => (Region.ready .any ops listed == [i]) && chkPost ops (listed.setIfInBounds i true) π
def drawOK (ops : Array Oper) (soft pre post : List Nat) : Bool :=
  Region.noSelect ops && (pre.length + post.length == ops.size) && (match post with | [] => true | i :: _ => brkI ops i) &&
  match chkPre ops soft (Array.replicate ops.size false) pre with
  | some l => chkPost ops l post
  | none => false
section
variable (P : Program) (T : TT)
def asilM (r : Regs) (H : Heap) (o : Op) (K : AV → Prop) : Prop :=
  match o with
  | .load t x => evalK r x fun v => tiK T t fun ti => match v with
    | .p (some (j, o)) => ablk H j fun cs => aload ti cs o K
    | .rp cs o => aload ti cs o K
    | _ => False
  | o => asil P T r o K
def asilS (sf : Bool) (r : Regs) (H : Heap) (o : Op) (K : AV → Prop) : Prop :=
  match sf with
  | true => asil P T r o K
  | false => asilM P T r H o K
def asilStep (nt : Nat) (all : Array Oper) (sf : Bool) (r : Regs) (H : Heap) (o : Oper) (K : Regs → Prop) : Prop :=
  let run := asilS P T sf r H o.op fun v => putD nt o.dst v r K
  let skip := putD nt o.dst (.tup []) r K
  match o.guard with
  | none => run
  | some (j, want) => match (all[j]?).bind (·.dst) with
    | none => False
    | some d => match getR r d with
      | some (.b t) => match want with
        | true => acond t run skip
        | false => acond t skip run
      | some (.tup []) => skip
      | _ => False
def pickOps (all : Array Oper) : List Nat → List Oper
  | [] => []
  | i :: π => match all[i]? with
    | some o => o :: pickOps all π
    | none => pickOps all π
def adraw (ip : Bool) (nt : Nat) (all : Array Oper) (soft : List Nat) (Q : AX → Regs → Heap → Prop) : List Nat → List Nat → Regs → Heap → Prop
  | [], post, r, H => aops P T ip nt all Q (pickOps all post) r H
  | i :: pre, post, r, H => match all[i]? with
    | some o => asilStep P T nt all (soft.contains i) r H o fun r' => adraw ip nt all soft Q pre post r' H
    | none => False
end
def SameW (w w' : World) : Prop := ∀ (g : Nat) (o : Obj), w.heap[g]? = some o → w'.heap[g]? = some o
def SilX (sf : Bool) (o : Oper) (E : Env) (w w' : World) : Prop := if (isLd o.op && !sf) = true then SameW w w' else ImOK E w'
section
variable {P : Program} {T : TT} {n0 nt : Nat}
theorem asilM_sound (hT : TOK P T) {E : Env} {w : World} {r : Regs} {H : Heap} {a : Act} (hr : RR nt E r a) (hR : Rel E H w) {o : Oper} {K : AV → Prop} (h : asilM P T r H o.op K) :
    ∃ y v, VR E y v ∧ K y ∧ ∀ w', SilX false o E w w' → (execOp a.eval o).run P w' = .ok (.value v) w' := by
  unfold SilX
  rw [Bool.not_false, Bool.and_true]
  generalize hop : o.op = op at h
  by_cases hl : isLd op = true
  · simp only [if_pos hl]
    cases op <;> first | cases hl | skip
    simp only [asilM] at h
    replace h := evalK_sound hr h
    obtain ⟨v, h1, h⟩ := h
    replace h := tiK_some h
    obtain ⟨ti, ht, h⟩ := h
    split at h
    · rename_i j of_
      replace h := ablk_some h
      obtain ⟨cs, hj, h⟩ := h
      obtain ⟨g, f, q, hρ, hv⟩ := h1
      obtain ⟨g', f', b, t', e1, e2, e3⟩ := hR.blk j cs hj
      rw [hρ] at e1
      simp only [Option.some.injEq, Prod.mk.injEq] at e1
      obtain ⟨rfl, rfl, rfl⟩ := e1
      obtain ⟨y, u, h6, h7, h8⟩ := loadVar_run hT ht e2 e3 h
      exact ⟨y, u, h6, h7, fun w' hw => by simp [execOp, hop, hv, Instr.loadAt, Instr.sureAddr, h8 w' (hw _ _ e2)]⟩
    · obtain ⟨g, f, c, t', fz, h3, h4, h5⟩ := h1
      obtain ⟨y, u, h6, h7, h8⟩ := loadVar_run hT ht (hR.im _ _ h3) h5 h
      exact ⟨y, u, h6, h7, fun w' hw => by simp [execOp, hop, h4, Instr.loadAt, Instr.sureAddr, h8 w' (hw _ _ (hR.im _ _ h3))]⟩
    · exact h.elim
  · simp only [if_neg hl]
    have h' : asil P T r o.op K := by
      rw [hop]
      cases op <;> first | exact h | exact absurd rfl hl
    obtain ⟨y, v, h1, h2, h3⟩ := asil_sound hT hr h'
    exact ⟨y, v, h1, h2, h3⟩
theorem asilStep_sound (hT : TOK P T) {E0 E : Env} {w0 w : World} {r : Regs} {H : Heap} {a : Act} (h : BR n0 nt E0 w0 E r H a w) {all : Array Oper} {sf : Bool} {o : Oper} {K : Regs → Prop} (hk : asilStep P T nt all sf r H o K) :
    ∃ v, YieldsIf P all (SilX sf o E w) o v a ∧ ∃ r', K r' ∧ BR n0 nt E0 w0 E r' H (a.put o.dst v) w := by
  have run : ∀ (hw : Region.wanted o (yielded all a.tmps) = true) (hk : asilS P T sf r H o.op fun v => putD nt o.dst v r K), ∃ v, YieldsIf P all (SilX sf o E w) o v a ∧ ∃ r', K r' ∧ BR n0 nt E0 w0 E r' H (a.put o.dst v) w := fun hw hk => by
    cases sf with
    | true =>
      obtain ⟨y, v, h1, h2, h3⟩ := asil_sound hT h.rr hk
      refine ⟨v, .inl ⟨hw, fun w' hw' => h3 w' ?_⟩, putD_sound h h1 h2⟩
      simpa [SilX] using hw'
    | false =>
      obtain ⟨y, v, h1, h2, h3⟩ := asilM_sound hT h.rr h.rel hk
      exact ⟨v, .inl ⟨hw, h3⟩, putD_sound h h1 h2⟩
  have skip : ∀ (hw : Region.wanted o (yielded all a.tmps) = false) (hk : putD nt o.dst (.tup []) r K), ∃ v, YieldsIf P all (SilX sf o E w) o v a ∧ ∃ r', K r' ∧ BR n0 nt E0 w0 E r' H (a.put o.dst v) w := fun hw hk => by
    exact ⟨undef, .inr ⟨hw, rfl⟩, putD_sound h (x := .tup []) (v := undef) ⟨#[], rfl, rfl⟩ hk⟩
  unfold asilStep at hk
  cases hg : o.guard with
  | none =>
    rw [hg] at hk
    exact run (by simp [Region.wanted, hg]) hk
  | some p =>
    obtain ⟨j, want⟩ := p
    rw [hg] at hk
    simp only at hk
    cases hd : (all[j]?).bind (·.dst) with
    | none => rw [hd] at hk; exact hk.elim
    | some d =>
      rw [hd] at hk
      simp only at hk
      have hy : yielded all a.tmps j = (match a.tmps[d]? with | some (.bool b) => some b | _ => none) := by
        unfold yielded
        rw [hd]
        simp only [Option.bind_some]
        rfl
      split at hk
      · rename_i t ht
        obtain ⟨h1, h2⟩ := h.rr.regs _ _ ht
        have h3 : a.tmps.getD d undef = .bool t := h2
        have h4 : a.tmps[d]? = some (.bool t) := by
          have hl : d < a.tmps.size := by rw [h.rr.size]; exact h1
          simp [hl] at h3 ⊢; exact h3
        have hw : Region.wanted o (yielded all a.tmps) = (t == want) := by
          simp only [Region.wanted, hg, hy, h4]
          cases t <;> cases want <;> rfl
        cases want <;> cases t
        · exact run hw hk
        · exact skip hw hk
        · exact skip hw hk
        · exact run hw hk
      · rename_i ht
        obtain ⟨h1, q, h2, h3⟩ := h.rr.regs _ _ ht
        have h4 : a.tmps[d]? = some (.tuple q) := by
          have hl : d < a.tmps.size := by rw [h.rr.size]; exact h1
          simp [hl] at h2 ⊢; exact h2
        have hw : Region.wanted o (yielded all a.tmps) = false := by
          simp only [Region.wanted, hg, hy, h4]
          rfl
        exact skip hw hk
      · exact hk.elim
/-- The part behind what was taken first: one after the other, each alone. -/
theorem post_sound (hT : TOK P T) {ip : Bool} {E0 Es : Env} {w0 ws : World} {all : Array Oper} {Q : AX → Regs → Heap → Prop} (hl0 : E0.ρ.length = n0) (hE : Ext E0 w0 Es ws) :
    ∀ (π : List Nat) (listed : Array Bool) (fuel : Nat), chkPost all listed π = true → π.length ≤ fuel → (∃ j, brkI all j = true ∧ listed.getD j false = true) → listed.size = all.size →
    ∀ (E : Env) (w : World) (r : Regs) (H : Heap) (a : Act), BR Es.ρ.length nt Es ws E r H a w → aops P T ip nt all Q (pickOps all π) r H →
      wpAnyB P .any all (Post n0 nt E0 w0 Q) (brkI all) (ImOK Es) (SameW ws) fuel listed a w
  | [], listed, fuel, hc, hf, hb, hsz, E, w, r, H, a, h, hk => by
    have hr : Region.ready .any all listed = [] := by simpa [chkPost] using hc
    have hq : Post n0 nt E0 w0 Q .normal a w := ⟨.normal, E, r, H, trivial, ⟨hl0, hE.trans h.ext, h.rel, h.rr, h.nd⟩, hk⟩
    cases fuel with
    | zero => exact ⟨hr, hq⟩
    | succ n => exact ⟨fun _ => hq, by rw [hr]; simp⟩
  | i :: π, listed, 0, hc, hf, hb, hsz, E, w, r, H, a, h, hk => by simp at hf
  | i :: π, listed, fuel + 1, hc, hf, hb, hsz, E, w, r, H, a, h, hk => by
    simp only [chkPost, Bool.and_eq_true, beq_iff_eq] at hc
    obtain ⟨hr, hc⟩ := hc
    have hir : i ∈ Region.ready .any all listed := by rw [hr]; simp
    obtain ⟨hun, o, ho, _⟩ := mem_ready.1 hir
    refine ⟨fun h0 => (by rw [hr] at h0; cases h0), ?_⟩
    rw [hr]
    intro k hki
    have : k = i := by simpa using hki
    subst this
    have hb' : ∃ j, brkI all j = true ∧ (listed.setIfInBounds k true).getD j false = true := by
      obtain ⟨j, h1, h2⟩ := hb
      exact ⟨j, h1, getD_set_true h2⟩
    have hk' : aops P T ip nt all Q (o :: pickOps all π) r H := by
      simpa only [pickOps, ho] using hk
    have := astep_sound hT h hk' (next := fun a' w' => Sf (brkI all) (ImOK Es) (SameW ws) (listed.setIfInBounds k true) w' ∧ wpAnyB P .any all (Post n0 nt E0 w0 Q) (brkI all) (ImOK Es) (SameW ws) fuel (listed.setIfInBounds k true) a' w') (Q := Post n0 nt E0 w0 Q)
      (fun x r' H' E' a' w' k1 k2 => ⟨⟨fun g o hg => k2.rel.im g o (k2.ext.le.im g o hg), fun hn => by
          obtain ⟨j, h1, h2⟩ := hb'
          rw [hn j h1] at h2; cases h2⟩, post_sound hT hl0 hE π _ fuel hc (by simp at hf; omega) hb' (by simpa using hsz) E' w' r' H' a' k2 k1⟩)
      (fun x r' H' E' w' v k1 k2 k3 => ⟨.panic x, E', r', H', ⟨v, rfl, k3⟩, ⟨hl0, hE.trans k2.ext, k2.rel, k2.rr, k2.nd⟩, k1⟩)
    unfold wpOp
    simp only [ho]
    split at this
    · rename_i hw; rw [if_pos hw]; exact .inl this
    · rename_i hw; rw [if_neg hw]; exact this
theorem pre_sound (hT : TOK P T) {ip : Bool} {E0 Es : Env} {w0 ws : World} {all : Array Oper} {Q : AX → Regs → Heap → Prop} (hl0 : E0.ρ.length = n0) (hE : Ext E0 w0 Es ws) (hsel : Region.noSelect all = true)
    (hQ : ∀ x r r' H, Q (.panic x) r H → Q (.panic x) r' H) {soft post : List Nat} (hpo : (match post with | [] => true | i :: _ => brkI all i) = true) :
    ∀ (pre : List Nat) (listed l : Array Bool) (fuel : Nat), chkPre all soft listed pre = some l → chkPost all l post = true → pre.length + post.length ≤ fuel → noBrk (brkI all) listed → listed.size = all.size →
    ∀ (r : Regs) (H : Heap) (a : Act), BR Es.ρ.length nt Es ws Es r H a ws → adraw P T ip nt all soft Q pre post r H →
      wpAnyB P .any all (Post n0 nt E0 w0 Q) (brkI all) (ImOK Es) (SameW ws) fuel listed a ws
  | [], listed, l, fuel, hc, hc2, hf, hnb, hsz, r, H, a, h, hk => by
    simp only [chkPre, Option.some.injEq] at hc
    subst hc
    cases post with
    | nil =>
      have hr : Region.ready .any all listed = [] := by simpa [chkPost] using hc2
      have hq : Post n0 nt E0 w0 Q .normal a ws := ⟨.normal, Es, r, H, trivial, ⟨hl0, hE, h.rel, h.rr, h.nd⟩, hk⟩
      cases fuel with
      | zero => exact ⟨hr, hq⟩
      | succ n => exact ⟨fun _ => hq, by rw [hr]; simp⟩
    | cons i π =>
      cases fuel with
      | zero => simp at hf
      | succ fuel =>
        simp only [chkPost, Bool.and_eq_true, beq_iff_eq] at hc2
        obtain ⟨hr, hc⟩ := hc2
        have hir : i ∈ Region.ready .any all listed := by rw [hr]; simp
        obtain ⟨hun, o, ho, _⟩ := mem_ready.1 hir
        have hlt : i < all.size := (Array.getElem?_eq_some_iff.1 ho).1
        refine ⟨fun h0 => (by rw [hr] at h0; cases h0), ?_⟩
        rw [hr]
        intro k hki
        have : k = i := by simpa using hki
        subst this
        have hb' : ∃ j, brkI all j = true ∧ (listed.setIfInBounds k true).getD j false = true :=
          ⟨k, hpo, by simp [hsz, hlt]⟩
        have hk' : aops P T ip nt all Q (o :: pickOps all π) r H := by
          have : adraw P T ip nt all soft Q [] (k :: π) r H := hk
          simpa only [adraw, pickOps, ho] using this
        have := astep_sound hT h hk' (next := fun a' w' => Sf (brkI all) (ImOK Es) (SameW ws) (listed.setIfInBounds k true) w' ∧ wpAnyB P .any all (Post n0 nt E0 w0 Q) (brkI all) (ImOK Es) (SameW ws) fuel (listed.setIfInBounds k true) a' w') (Q := Post n0 nt E0 w0 Q)
          (fun x r' H' E' a' w' k1 k2 => ⟨⟨fun g o hg => k2.rel.im g o (k2.ext.le.im g o hg), fun hn => by
              obtain ⟨j, h1, h2⟩ := hb'
              rw [hn j h1] at h2; cases h2⟩, post_sound hT hl0 hE π _ fuel hc (by simp at hf; omega) hb' (by simpa using hsz) E' w' r' H' a' k2 k1⟩)
          (fun x r' H' E' w' v k1 k2 k3 => ⟨.panic x, E', r', H', ⟨v, rfl, k3⟩, ⟨hl0, hE.trans k2.ext, k2.rel, k2.rr, k2.nd⟩, k1⟩)
        unfold wpOp
        simp only [ho]
        split at this
        · rename_i hw; rw [if_pos hw]; exact .inl this
        · rename_i hw; rw [if_neg hw]; exact this
  | i :: pre, listed, l, 0, hc, hc2, hf, hnb, hsz, r, H, a, h, hk => by simp at hf
  | i :: pre, listed, l, fuel + 1, hc, hc2, hf, hnb, hsz, r, H, a, h, hk => by
    unfold chkPre at hc
    cases ho : all[i]? with
    | none => rw [ho] at hc; cases hc
    | some o =>
      rw [ho] at hc
      simp only at hc
      split at hc
      · rename_i hcond
        simp only [Bool.and_eq_true, Bool.or_eq_true, Bool.not_eq_true'] at hcond
        obtain ⟨⟨⟨hs, hrd⟩, hfr⟩, hld⟩ := hcond
        have hk' : asilStep P T nt all (soft.contains i) r H o fun r' => adraw P T ip nt all soft Q pre post r' H := by
          simpa only [adraw, ho] using hk
        obtain ⟨v, hy, r', hk2, hbr⟩ := asilStep_sound hT h hk'
        have hbi : brkI all i = false := by unfold brkI; rw [ho]; simp [hs]
        have hnb' : noBrk (brkI all) (listed.setIfInBounds i true) := fun j hj => by
          have hne : i ≠ j := fun e => by subst e; rw [hbi] at hj; cases hj
          rw [getD_set_ne false hne]; exact hnb j hj
        have hrec := pre_sound hT hl0 hE hsel hQ hpo pre _ l fuel hc hc2 (by simp at hf; omega) hnb' (by simpa using hsz) r' H _ hbr hk2
        have hQp : ∀ c a' w', Post n0 nt E0 w0 Q (.panic c) (a'.put o.dst v) w' → Post n0 nt E0 w0 Q (.panic c) a' w' := by
          rintro c a' w' ⟨x, E, r, H, hx, hb, hq⟩
          cases x <;> first | exact hx.elim | skip
          refine ⟨_, E, [], H, hx, ⟨hb.len0, hb.ext, hb.rel, ⟨?_, fun t v ht => by cases ht⟩, ?_⟩, hQ _ _ _ _ hq⟩
          · have := hb.rr.size
            cases hd : o.dst <;> simpa [Act.put, hd] using this
          · have := hb.nd
            cases hd : o.dst <;> simpa [Act.put, hd] using this
        have hSf : Sf (brkI all) (ImOK Es) (SameW ws) listed ws := ⟨h.rel.im, fun _ _ _ h => h⟩
        by_cases hl : (isLd o.op && !soft.contains i) = true
        · have hw : wOK all listed i (waits all i) = true := by
            rcases hld with h' | h'
            · rw [h'] at hl; cases hl
            · exact h'
          generalize waits all i = W at hw
          simp only [wOK, Bool.and_eq_true, List.all_eq_true, List.mem_range, Bool.or_eq_true, Bool.not_eq_true'] at hw
          obtain ⟨hw1, hw2⟩ := hw
          refine wpAnyB_first (X := SameW ws) (W := W) ho (Region.noSelect_spec hsel) hQp (fun j hj => ?_) hbi (fun listed' w' hWl hS => ?_) fuel listed a ws (Region.free_spec ho hfr) (by simpa using hrd) (fun j hj => (hw1 j hj).2) ?_ hSf hrec
          · have h1 := (hw1 j hj).1
            cases hoj : all[j]? with
            | none => rw [hoj] at h1; cases h1
            | some oj =>
              rw [hoj] at h1
              obtain ⟨e, he, h2⟩ := Array.any_eq_true'.1 h1
              simp only [Bool.and_eq_true, Bool.or_eq_true, beq_iff_eq, List.contains_iff_mem] at h2
              exact ⟨oj, rfl, e, he, h2.1, h2.2⟩
          · refine hS.two fun j hj => ?_
            have hjs : j < all.size := by
              unfold brkI at hj
              cases hoj : all[j]? with
              | none => rw [hoj] at hj; cases hj
              | some oj => exact (Array.getElem?_eq_some_iff.1 hoj).1
            rcases hw2 j hjs with h' | h'
            · rw [hj] at h'; cases h'
            · exact hWl j (by simpa using h')
          · rw [show SilX (soft.contains i) o Es ws = SameW ws from by funext w'; exact if_pos hl] at hy; exact hy
        · refine wpAnyB_first (X := ImOK Es) (W := []) ho (Region.noSelect_spec hsel) hQp (fun j hj => by cases hj) hbi (fun listed' w' hWl hS => hS.one) fuel listed a ws (Region.free_spec ho hfr) (by simpa using hrd) (fun j hj => by cases hj) ?_ hSf hrec
          rw [show SilX (soft.contains i) o Es ws = ImOK Es from by funext w'; exact if_neg hl] at hy; exact hy
      · cases hc
/-- A region of which the order is drawn, by one order: 'pre' are those that only look, 'post' come one by one. -/
theorem ADraw.ofS (hT : TOK P T) (hm : P.follows .mixedOrders = true) (ip : Bool) {ops : Array Oper} {r : Regs} {H : Heap} {Q : AX → Regs → Heap → Prop} (soft pre post : List Nat) (hd : drawOK ops soft pre post = true)
    (hQ : ∀ x r r' H, Q (.panic x) r H → Q (.panic x) r' H) (h : adraw P T ip nt ops soft Q pre post r H) : ADraw P n0 nt ops r H Q := by
  refine ⟨fun id E0 w0 E a w hb => ?_⟩
  unfold drawOK at hd
  simp only [Bool.and_eq_true, beq_iff_eq] at hd
  obtain ⟨⟨⟨h1, h2⟩, h3⟩, h4⟩ := hd
  split at h4
  · rename_i l hl
    have hb2 : Ext E0 w0 E { w with drawn := w.drawn + 1 } := ⟨hb.ext.le, hb.ext.new, hb.ext.imn, hb.ext.os, hb.ext.tape, hb.ext.output, hb.ext.size, hb.ext.keep⟩
    have hr2 : Rel E H { w with drawn := w.drawn + 1 } := ⟨hb.rel.len, hb.rel.blk, hb.rel.mp, hb.rel.inj, hb.rel.lt, hb.rel.im, hb.rel.imd, hb.rel.gl⟩
    have hnb : noBrk (brkI ops) (Array.replicate ops.size false) := fun j _ => by
      by_cases hj : j < ops.size
      · simp [hj]
      · simp [hj]
    have := pre_sound hT hb.len0 hb2 h1 hQ h3 pre _ l ops.size hl h4 (by omega) hnb (by simp) r H a ⟨rfl, .refl _ _, hr2, hb.rr, hb.nd⟩ h
    exact wp_region_any hm (wpAny_of_B _ _ _ _ this)
  · cases h4
theorem ADraw.of (hT : TOK P T) (hm : P.follows .mixedOrders = true) (ip : Bool) {ops : Array Oper} {r : Regs} {H : Heap} {Q : AX → Regs → Heap → Prop} (pre post : List Nat) (hd : drawOK ops [] pre post = true)
    (hQ : ∀ x r r' H, Q (.panic x) r H → Q (.panic x) r' H) (h : adraw P T ip nt ops [] Q pre post r H) : ADraw P n0 nt ops r H Q := ADraw.ofS hT hm ip [] pre post hd hQ h
theorem ADraw.gh {ops : Array Oper} {r : Regs} {H : Heap} {Q : AX → Regs → Heap → Prop} (h : Gh n0 nt (fun r H => ADraw P n0 nt ops r H Q) r H) : ADraw P n0 nt ops r H Q :=
  ⟨fun id E0 w0 E a w hb => by
    obtain ⟨E', r', H', hb', hr⟩ := h E0 w0 E a w hb
    exact hr.out id E0 w0 E' a w hb'⟩
theorem ALoop.gh {c : Code} {r : Regs} {H : Heap} {Q : AX → Regs → Heap → Prop} (h : Gh n0 nt (fun r H => ALoop P n0 nt c r H Q) r H) : ALoop P n0 nt c r H Q :=
  ⟨fun E0 w0 E a w hb => by
    obtain ⟨E', r', H', hb', hr⟩ := h E0 w0 E a w hb
    exact hr.out E0 w0 E' a w hb'⟩
end
end Go.AK
namespace Go.AK
open Go Go.RowKit
set_option linter.unusedSectionVars false
variable [Globs]
set_option linter.unusedVariables false
section
variable {P : Program} {T : TT}
/-- A law's call, from its spec. -/
theorem ACall.top {f : Nat} {args : Array Value} {W : World} {xs : List AV} (h : ACall P f xs [] fun r H => r = .ret (.b true) ∧ H = []) (hg : Globs.ok fun g => W.heap[g]?) (hv : VRL (E0 W) xs args.toList) (hb : ∃ fn, P.funcs[f]? = some fn ∧ (fn.name == "runtime.NumGoroutine") = false ∧ fn.body.isNone = false) :
    Calls P f args W fun e W' => e = .returned (.bool true) ∧ Below W.heap.size W W' :=
  Calls.mono ((h.run (E0 W) W args (Rel.start W hg) hv).calls hb) fun e W' ⟨r, E', H', he, hR, ⟨hr, hH⟩, hm⟩ => by
    subst hr
    cases e with
    | returned v => exact ⟨by rw [show v = .bool true from hm], ⟨he.os, he.tape, he.output, he.size, fun k hk => he.keep k hk fun j x hx => by simp [E0] at hx⟩⟩
    | panicked c => exact hm.elim
    | outgrown => exact hm.elim
theorem vr_slice {E : Env} {x : AV} {a : Option Addr} {l c : Nat} (h : VRL E [x] (Value.slice a l c).cells.toList) : VR E x (.slice a l c) := by
  obtain ⟨v, h1, h2⟩ := vrl_one h
  have : [Value.slice a l c] = [v] := h1
  cases this; exact h2
theorem vr_agg {E : Env} {xs : List AV} {cs : Array Value} (h : VRL E xs (Value.agg cs).cells.toList) : VR E (.agg xs) (.agg cs) := ⟨cs, rfl, h⟩
/-- A row of whole numbers that comes in. -/
theorem WTs_ints {n e : Nat} {k : IntKind} (h : ∀ ys, WT T n e ys → ∃ m, ys = [.i k m] ∧ (Lit.int k m).wf = true) : ∀ (m : Nat) (cs : List AV), WTs (WT T n) (List.replicate m e) cs → ∃ L : List Int, cs = nums k L ∧ L.length = m ∧ ∀ x ∈ L, (Lit.int k x).wf = true
  | 0, cs, hc => ⟨[], (show cs = [] from hc), rfl, fun x hx => by cases hx⟩
  | m + 1, cs, hc => by
    rw [List.replicate_succ] at hc
    obtain ⟨ys, zs, rfl, h1, h2⟩ := hc
    obtain ⟨x, rfl, hx⟩ := h ys h1
    obtain ⟨L, rfl, hl, hL⟩ := WTs_ints h m zs h2
    refine ⟨x :: L, rfl, by simp [hl], fun y hy => ?_⟩
    rcases List.mem_cons.1 hy with rfl | hy
    · exact hx
    · exact hL y hy
end
end Go.AK
namespace Go.AK
open Go Go.RowKit
set_option linter.unusedSectionVars false
variable [Globs]
theorem acond_t {t : Bool} {A B : Prop} (h : t = true) (k : A) : acond t A B := by subst h; exact k
theorem acond_f {t : Bool} {A B : Prop} (h : t = false) (k : B) : acond t A B := by subst h; exact k
theorem aget_num {k : IntKind} {L : List Int} {o i : Nat} {x : Int} {K : AV → Prop} (ho : o = i) (h : L[i]? = some x) (hk : K (.i k x)) : aget (nums k L) o K := by
  subst ho
  unfold aget
  have : (nums k L)[o]? = some (.i k x) := by simp [nums, h]
  rw [this]; exact hk
theorem aget_at {cs : List AV} {o i : Nat} {x : AV} {K : AV → Prop} (ho : o = i) (h : cs[i]? = some x) (hk : K x) : aget cs o K := by
  subst ho
  unfold aget
  rw [h]; exact hk
theorem aget_numS {φ : Nat → Sb} {k : IntKind} {L : List Int} {o i : Nat} {x : Int} {K : AV → Prop} (ho : o = i) (h : L[i]? = some x) (hk : K (.i k x)) : aget (subs φ (nums k L)) o K := by
  rw [subs_nums]; exact aget_num ho h hk
theorem plc_get {L : List Int} {n i : Nat} (hp : ∀ x ∈ L, 0 ≤ x ∧ x < (n : Int)) (h : i < L.length) : ∃ x : Nat, L[i]? = some (x : Int) ∧ x < n := by
  have := hp _ (List.getElem_mem h)
  refine ⟨L[i].toNat, ?_, by omega⟩
  rw [List.getElem?_eq_getElem h, Int.toNat_of_nonneg this.1]
theorem ADraw.to {P : Program} {n0 nt : Nat} {ops : Array Oper} {r r' : Regs} {H H' : Heap} {Q : AX → Regs → Heap → Prop} (hr : r = r') (hH : H = H') (h : ADraw P n0 nt ops r' H' Q) : ADraw P n0 nt ops r H Q := by
  subst hr; subst hH; exact h
end Go.AK
namespace Go.AK
open Go Go.RowKit
set_option linter.unusedSectionVars false
variable [Globs] [Defs]
set_option linter.unusedVariables false
/-! Drawn regions in which, behind an operation that turns something, others that only hand on come in any order. -/
def pureK : Op → Bool
  | .move _ | .assign _ | .extract .. => true
  | _ => false
theorem pureK_sil {op : Op} (h : pureK op = true) : silK op = true := by cases op <;> first | rfl | cases h
def chkPostP (ops : Array Oper) : Array Bool → List (Nat × Bool) → Bool
  | listed, [] => Region.ready .any ops listed == []
  | listed, (i, true) :: π => (match ops[i]? with
    | some o => pureK o.op && (Region.ready .any ops listed).contains i && Region.free .any ops listed i
    | none => false) && chkPostP ops (listed.setIfInBounds i true) π
  | listed, (i, false) :: π => (Region.ready .any ops listed == [i]) && chkPostP ops (listed.setIfInBounds i true) π
def drawOKP (ops : Array Oper) (soft pre : List Nat) (post : List (Nat × Bool)) : Bool :=
  Region.noSelect ops && (pre.length + post.length == ops.size) && (match post with | [] => true | (i, _) :: _ => brkI ops i) &&
  match chkPre ops soft (Array.replicate ops.size false) pre with
  | some l => chkPostP ops l post
  | none => false
section
variable (P : Program) (T : TT)
def apost (ip : Bool) (nt : Nat) (all : Array Oper) (Q : AX → Regs → Heap → Prop) : List (Nat × Bool) → Regs → Heap → Prop
  | [], r, H => Q .normal r H
  | (i, true) :: π, r, H => match all[i]? with
    | some o => asilStep P T nt all true r H o fun r' => apost ip nt all Q π r' H
    | none => False
  | (i, false) :: π, r, H => match all[i]? with
    | some o => astep P T ip nt all r H o fun v r' H' => match v with
      | .ret _ => apost ip nt all Q π r' H'
      | .pan v => Q (.panic v) r' H'
    | none => False
def adrawP (ip : Bool) (nt : Nat) (all : Array Oper) (soft : List Nat) (Q : AX → Regs → Heap → Prop) : List Nat → List (Nat × Bool) → Regs → Heap → Prop
  | [], post, r, H => apost P T ip nt all Q post r H
  | i :: pre, post, r, H => match all[i]? with
    | some o => asilStep P T nt all (soft.contains i) r H o fun r' => adrawP ip nt all soft Q pre post r' H
    | none => False
end
section
variable {P : Program} {T : TT} {n0 nt : Nat}
theorem asil_pure {E : Env} {r : Regs} {a : Act} (hr : RR nt E r a) {o : Oper} {K : AV → Prop} (hp : pureK o.op = true) (h : asil P T r o.op K) : ∃ y v, VR E y v ∧ K y ∧ ∀ w', (execOp a.eval o).run P w' = .ok (.value v) w' := by
  obtain ⟨dst, op, ty, pos, aft, gd⟩ := o
  cases op <;> first | cases hp | skip
  case move x =>
    simp only [asil] at h
    obtain ⟨y, h1, h2⟩ := evalK_sound hr h
    exact ⟨y, _, h1, h2, fun w => rfl⟩
  case assign x =>
    simp only [asil] at h
    obtain ⟨y, h1, h2⟩ := evalK_sound hr h
    exact ⟨y, _, h1, h2, fun w => rfl⟩
  case extract x n =>
    simp only [asil] at h
    obtain ⟨v, h1, h⟩ := evalK_sound hr h
    split at h
    · rename_i vs
      obtain ⟨as, h3, h4⟩ := h1
      obtain ⟨y, h5, h6⟩ := aget_some h
      obtain ⟨u, h7, h8⟩ := h4.get h5
      have h9 : as[n]? = some u := by simpa using h7
      exact ⟨y, u, h8, h6, fun w => by simp [execOp, h3, Instr.extract, h9]⟩
    · exact h.elim
theorem pureStep_sound {E0 E : Env} {w0 w : World} {r : Regs} {H : Heap} {a : Act} (h : BR n0 nt E0 w0 E r H a w) {all : Array Oper} {o : Oper} {K : Regs → Prop} (hp : pureK o.op = true) (hk : asilStep P T nt all true r H o K) :
    ∃ v, YieldsIf P all (fun _ => True) o v a ∧ ∃ r', K r' ∧ BR n0 nt E0 w0 E r' H (a.put o.dst v) w := by
  have run : ∀ (hw : Region.wanted o (yielded all a.tmps) = true) (hk : asil P T r o.op fun v => putD nt o.dst v r K), ∃ v, YieldsIf P all (fun _ => True) o v a ∧ ∃ r', K r' ∧ BR n0 nt E0 w0 E r' H (a.put o.dst v) w := fun hw hk => by
    obtain ⟨y, v, h1, h2, h3⟩ := asil_pure h.rr hp hk
    exact ⟨v, .inl ⟨hw, fun w' _ => h3 w'⟩, putD_sound h h1 h2⟩
  have skip : ∀ (hw : Region.wanted o (yielded all a.tmps) = false) (hk : putD nt o.dst (.tup []) r K), ∃ v, YieldsIf P all (fun _ => True) o v a ∧ ∃ r', K r' ∧ BR n0 nt E0 w0 E r' H (a.put o.dst v) w := fun hw hk => by
    exact ⟨undef, .inr ⟨hw, rfl⟩, putD_sound h (x := .tup []) (v := undef) ⟨#[], rfl, rfl⟩ hk⟩
  unfold asilStep at hk
  cases hg : o.guard with
  | none =>
    rw [hg] at hk
    exact run (by simp [Region.wanted, hg]) hk
  | some p =>
    obtain ⟨j, want⟩ := p
    rw [hg] at hk
    simp only at hk
    cases hd : (all[j]?).bind (·.dst) with
    | none => rw [hd] at hk; exact hk.elim
    | some d =>
      rw [hd] at hk
      simp only at hk
      have hy : yielded all a.tmps j = (match a.tmps[d]? with | some (.bool b) => some b | _ => none) := by
        unfold yielded
        rw [hd]
        simp only [Option.bind_some]
        rfl
      split at hk
      · rename_i t ht
        obtain ⟨h1, h2⟩ := h.rr.regs _ _ ht
        have h3 : a.tmps.getD d undef = .bool t := h2
        have h4 : a.tmps[d]? = some (.bool t) := by
          have hl : d < a.tmps.size := by rw [h.rr.size]; exact h1
          simp [hl] at h3 ⊢; exact h3
        have hw : Region.wanted o (yielded all a.tmps) = (t == want) := by
          simp only [Region.wanted, hg, hy, h4]
          cases t <;> cases want <;> rfl
        cases want <;> cases t
        · exact run hw hk
        · exact skip hw hk
        · exact skip hw hk
        · exact run hw hk
      · rename_i ht
        obtain ⟨h1, q, h2, h3⟩ := h.rr.regs _ _ ht
        have h4 : a.tmps[d]? = some (.tuple q) := by
          have hl : d < a.tmps.size := by rw [h.rr.size]; exact h1
          simp [hl] at h2 ⊢; exact h2
        have hw : Region.wanted o (yielded all a.tmps) = false := by
          simp only [Region.wanted, hg, hy, h4]
          rfl
        exact skip hw hk
      · exact hk.elim
theorem postP_sound (hT : TOK P T) {ip : Bool} {E0 Es : Env} {w0 ws : World} {all : Array Oper} {Q : AX → Regs → Heap → Prop} (hl0 : E0.ρ.length = n0) (hE : Ext E0 w0 Es ws) (hsel : Region.noSelect all = true)
    (hQ : ∀ x r r' H, Q (.panic x) r H → Q (.panic x) r' H) :
    ∀ (π : List (Nat × Bool)) (listed : Array Bool) (fuel : Nat), chkPostP all listed π = true → π.length ≤ fuel → (∃ j, brkI all j = true ∧ listed.getD j false = true) → listed.size = all.size →
    ∀ (E : Env) (w : World) (r : Regs) (H : Heap) (a : Act), BR Es.ρ.length nt Es ws E r H a w → apost P T ip nt all Q π r H →
      wpAnyB P .any all (Post n0 nt E0 w0 Q) (brkI all) (ImOK Es) (SameW ws) fuel listed a w
  | [], listed, fuel, hc, hf, hb, hsz, E, w, r, H, a, h, hk => by
    have hr : Region.ready .any all listed = [] := by simpa [chkPostP] using hc
    have hq : Post n0 nt E0 w0 Q .normal a w := ⟨.normal, E, r, H, trivial, ⟨hl0, hE.trans h.ext, h.rel, h.rr, h.nd⟩, hk⟩
    cases fuel with
    | zero => exact ⟨hr, hq⟩
    | succ n => exact ⟨fun _ => hq, by rw [hr]; simp⟩
  | (i, s) :: π, listed, 0, hc, hf, hb, hsz, E, w, r, H, a, h, hk => by simp at hf
  | (i, false) :: π, listed, fuel + 1, hc, hf, hb, hsz, E, w, r, H, a, h, hk => by
    simp only [chkPostP, Bool.and_eq_true, beq_iff_eq] at hc
    obtain ⟨hr, hc⟩ := hc
    have hir : i ∈ Region.ready .any all listed := by rw [hr]; simp
    obtain ⟨hun, o, ho, _⟩ := mem_ready.1 hir
    refine ⟨fun h0 => (by rw [hr] at h0; cases h0), ?_⟩
    rw [hr]
    intro k hki
    have : k = i := by simpa using hki
    subst this
    have hb' : ∃ j, brkI all j = true ∧ (listed.setIfInBounds k true).getD j false = true := by
      obtain ⟨j, h1, h2⟩ := hb
      exact ⟨j, h1, getD_set_true h2⟩
    have hk' : astep P T ip nt all r H o fun v r' H' => match v with | .ret _ => apost P T ip nt all Q π r' H' | .pan v => Q (.panic v) r' H' := by
      simpa only [apost, ho] using hk
    have := astep_sound hT h hk' (next := fun a' w' => Sf (brkI all) (ImOK Es) (SameW ws) (listed.setIfInBounds k true) w' ∧ wpAnyB P .any all (Post n0 nt E0 w0 Q) (brkI all) (ImOK Es) (SameW ws) fuel (listed.setIfInBounds k true) a' w') (Q := Post n0 nt E0 w0 Q)
      (fun x r' H' E' a' w' k1 k2 => ⟨⟨fun g o hg => k2.rel.im g o (k2.ext.le.im g o hg), fun hn => by
          obtain ⟨j, h1, h2⟩ := hb'
          rw [hn j h1] at h2; cases h2⟩, postP_sound hT hl0 hE hsel hQ π _ fuel hc (by simp at hf; omega) hb' (by simpa using hsz) E' w' r' H' a' k2 k1⟩)
      (fun x r' H' E' w' v k1 k2 k3 => ⟨.panic x, E', r', H', ⟨v, rfl, k3⟩, ⟨hl0, hE.trans k2.ext, k2.rel, k2.rr, k2.nd⟩, k1⟩)
    unfold wpOp
    simp only [ho]
    split at this
    · rename_i hw; rw [if_pos hw]; exact .inl this
    · rename_i hw; rw [if_neg hw]; exact this
  | (i, true) :: π, listed, fuel + 1, hc, hf, hb, hsz, E, w, r, H, a, h, hk => by
    simp only [chkPostP, Bool.and_eq_true] at hc
    obtain ⟨hc1, hc⟩ := hc
    cases ho : all[i]? with
    | none => rw [ho] at hc1; cases hc1
    | some o =>
      rw [ho] at hc1
      simp only [Bool.and_eq_true] at hc1
      obtain ⟨⟨hpu, hrd⟩, hfr⟩ := hc1
      have hk' : asilStep P T nt all true r H o fun r' => apost P T ip nt all Q π r' H := by
        simpa only [apost, ho] using hk
      obtain ⟨v, hy, r', hk2, hbr⟩ := pureStep_sound h hpu hk'
      have hbi : brkI all i = false := by unfold brkI; rw [ho]; simp [pureK_sil hpu]
      have hb' : ∃ j, brkI all j = true ∧ (listed.setIfInBounds i true).getD j false = true := by
        obtain ⟨j, h1, h2⟩ := hb
        exact ⟨j, h1, getD_set_true h2⟩
      have hQp : ∀ c a' w', Post n0 nt E0 w0 Q (.panic c) (a'.put o.dst v) w' → Post n0 nt E0 w0 Q (.panic c) a' w' := by
        rintro c a' w' ⟨x, E, r, H, hx, hb, hq⟩
        cases x <;> first | exact hx.elim | skip
        refine ⟨_, E, [], H, hx, ⟨hb.len0, hb.ext, hb.rel, ⟨?_, fun t v ht => by cases ht⟩, ?_⟩, hQ _ _ _ _ hq⟩
        · have := hb.rr.size
          cases hd : o.dst <;> simpa [Act.put, hd] using this
        · have := hb.nd
          cases hd : o.dst <;> simpa [Act.put, hd] using this
      have hSf : Sf (brkI all) (ImOK Es) (SameW ws) listed w := ⟨fun g o hg => h.rel.im g o (h.ext.le.im g o hg), fun hn => by
        obtain ⟨j, h1, h2⟩ := hb
        rw [hn j h1] at h2; cases h2⟩
      have hrec := postP_sound hT hl0 hE hsel hQ π _ fuel hc (by simp at hf; omega) hb' (by simpa using hsz) E w r' H _ hbr hk2
      exact wpAnyB_first (X := fun _ => True) (W := []) ho (Region.noSelect_spec hsel) hQp (fun j hj => by cases hj) hbi (fun listed' w' hWl hS => trivial) fuel listed a w (Region.free_spec ho hfr) (by simpa using hrd) (fun j hj => by cases hj) hy hSf hrec
theorem preP_sound (hT : TOK P T) {ip : Bool} {E0 Es : Env} {w0 ws : World} {all : Array Oper} {Q : AX → Regs → Heap → Prop} (hl0 : E0.ρ.length = n0) (hE : Ext E0 w0 Es ws) (hsel : Region.noSelect all = true)
    (hQ : ∀ x r r' H, Q (.panic x) r H → Q (.panic x) r' H) {soft : List Nat} {post : List (Nat × Bool)} (hpo : (match post with | [] => true | (i, _) :: _ => brkI all i) = true) :
    ∀ (pre : List Nat) (listed l : Array Bool) (fuel : Nat), chkPre all soft listed pre = some l → chkPostP all l post = true → pre.length + post.length ≤ fuel → noBrk (brkI all) listed → listed.size = all.size →
    ∀ (r : Regs) (H : Heap) (a : Act), BR Es.ρ.length nt Es ws Es r H a ws → adrawP P T ip nt all soft Q pre post r H →
      wpAnyB P .any all (Post n0 nt E0 w0 Q) (brkI all) (ImOK Es) (SameW ws) fuel listed a ws
  | [], listed, l, fuel, hc, hc2, hf, hnb, hsz, r, H, a, h, hk => by
    simp only [chkPre, Option.some.injEq] at hc
    subst hc
    cases post with
    | nil =>
      have hr : Region.ready .any all listed = [] := by simpa [chkPostP] using hc2
      have hq : Post n0 nt E0 w0 Q .normal a ws := ⟨.normal, Es, r, H, trivial, ⟨hl0, hE, h.rel, h.rr, h.nd⟩, hk⟩
      cases fuel with
      | zero => exact ⟨hr, hq⟩
      | succ n => exact ⟨fun _ => hq, by rw [hr]; simp⟩
    | cons is π =>
      obtain ⟨i, s⟩ := is
      cases fuel with
      | zero => simp at hf
      | succ fuel =>
        have hbr0 : brkI all i = true := hpo
        cases s with
        | true =>
          exfalso
          simp only [chkPostP, Bool.and_eq_true] at hc2
          cases ho : all[i]? with
          | none => rw [ho] at hc2; exact absurd hc2.1 (by simp)
          | some o =>
            rw [ho] at hc2
            simp only [Bool.and_eq_true] at hc2
            unfold brkI at hbr0
            rw [ho] at hbr0
            simp [pureK_sil hc2.1.1.1] at hbr0
        | false =>
        simp only [chkPostP, Bool.and_eq_true, beq_iff_eq] at hc2
        obtain ⟨hr, hc⟩ := hc2
        have hir : i ∈ Region.ready .any all listed := by rw [hr]; simp
        obtain ⟨hun, o, ho, _⟩ := mem_ready.1 hir
        have hlt : i < all.size := (Array.getElem?_eq_some_iff.1 ho).1
        refine ⟨fun h0 => (by rw [hr] at h0; cases h0), ?_⟩
        rw [hr]
        intro k hki
        have : k = i := by simpa using hki
        subst this
        have hb' : ∃ j, brkI all j = true ∧ (listed.setIfInBounds k true).getD j false = true :=
          ⟨k, hpo, by simp [hsz, hlt]⟩
        have hk' : astep P T ip nt all r H o fun v r' H' => match v with | .ret _ => apost P T ip nt all Q π r' H' | .pan v => Q (.panic v) r' H' := by
          have : adrawP P T ip nt all soft Q [] ((k, false) :: π) r H := hk
          simpa only [adrawP, apost, ho] using this
        have := astep_sound hT h hk' (next := fun a' w' => Sf (brkI all) (ImOK Es) (SameW ws) (listed.setIfInBounds k true) w' ∧ wpAnyB P .any all (Post n0 nt E0 w0 Q) (brkI all) (ImOK Es) (SameW ws) fuel (listed.setIfInBounds k true) a' w') (Q := Post n0 nt E0 w0 Q)
          (fun x r' H' E' a' w' k1 k2 => ⟨⟨fun g o hg => k2.rel.im g o (k2.ext.le.im g o hg), fun hn => by
              obtain ⟨j, h1, h2⟩ := hb'
              rw [hn j h1] at h2; cases h2⟩, postP_sound hT hl0 hE hsel hQ π _ fuel hc (by simp at hf; omega) hb' (by simpa using hsz) E' w' r' H' a' k2 k1⟩)
          (fun x r' H' E' w' v k1 k2 k3 => ⟨.panic x, E', r', H', ⟨v, rfl, k3⟩, ⟨hl0, hE.trans k2.ext, k2.rel, k2.rr, k2.nd⟩, k1⟩)
        unfold wpOp
        simp only [ho]
        split at this
        · rename_i hw; rw [if_pos hw]; exact .inl this
        · rename_i hw; rw [if_neg hw]; exact this
  | i :: pre, listed, l, 0, hc, hc2, hf, hnb, hsz, r, H, a, h, hk => by simp at hf
  | i :: pre, listed, l, fuel + 1, hc, hc2, hf, hnb, hsz, r, H, a, h, hk => by
    unfold chkPre at hc
    cases ho : all[i]? with
    | none => rw [ho] at hc; cases hc
    | some o =>
      rw [ho] at hc
      simp only at hc
      split at hc
      · rename_i hcond
        simp only [Bool.and_eq_true, Bool.or_eq_true, Bool.not_eq_true'] at hcond
        obtain ⟨⟨⟨hs, hrd⟩, hfr⟩, hld⟩ := hcond
        have hk' : asilStep P T nt all (soft.contains i) r H o fun r' => adrawP P T ip nt all soft Q pre post r' H := by
          simpa only [adrawP, ho] using hk
        obtain ⟨v, hy, r', hk2, hbr⟩ := asilStep_sound hT h hk'
        have hbi : brkI all i = false := by unfold brkI; rw [ho]; simp [hs]
        have hnb' : noBrk (brkI all) (listed.setIfInBounds i true) := fun j hj => by
          have hne : i ≠ j := fun e => by subst e; rw [hbi] at hj; cases hj
          rw [getD_set_ne false hne]; exact hnb j hj
        have hrec := preP_sound hT hl0 hE hsel hQ hpo pre _ l fuel hc hc2 (by simp at hf; omega) hnb' (by simpa using hsz) r' H _ hbr hk2
        have hQp : ∀ c a' w', Post n0 nt E0 w0 Q (.panic c) (a'.put o.dst v) w' → Post n0 nt E0 w0 Q (.panic c) a' w' := by
          rintro c a' w' ⟨x, E, r, H, hx, hb, hq⟩
          cases x <;> first | exact hx.elim | skip
          refine ⟨_, E, [], H, hx, ⟨hb.len0, hb.ext, hb.rel, ⟨?_, fun t v ht => by cases ht⟩, ?_⟩, hQ _ _ _ _ hq⟩
          · have := hb.rr.size
            cases hd : o.dst <;> simpa [Act.put, hd] using this
          · have := hb.nd
            cases hd : o.dst <;> simpa [Act.put, hd] using this
        have hSf : Sf (brkI all) (ImOK Es) (SameW ws) listed ws := ⟨h.rel.im, fun _ _ _ h => h⟩
        by_cases hl : (isLd o.op && !soft.contains i) = true
        · have hw : wOK all listed i (waits all i) = true := by
            rcases hld with h' | h'
            · rw [h'] at hl; cases hl
            · exact h'
          generalize waits all i = W at hw
          simp only [wOK, Bool.and_eq_true, List.all_eq_true, List.mem_range, Bool.or_eq_true, Bool.not_eq_true'] at hw
          obtain ⟨hw1, hw2⟩ := hw
          refine wpAnyB_first (X := SameW ws) (W := W) ho (Region.noSelect_spec hsel) hQp (fun j hj => ?_) hbi (fun listed' w' hWl hS => ?_) fuel listed a ws (Region.free_spec ho hfr) (by simpa using hrd) (fun j hj => (hw1 j hj).2) ?_ hSf hrec
          · have h1 := (hw1 j hj).1
            cases hoj : all[j]? with
            | none => rw [hoj] at h1; cases h1
            | some oj =>
              rw [hoj] at h1
              obtain ⟨e, he, h2⟩ := Array.any_eq_true'.1 h1
              simp only [Bool.and_eq_true, Bool.or_eq_true, beq_iff_eq, List.contains_iff_mem] at h2
              exact ⟨oj, rfl, e, he, h2.1, h2.2⟩
          · refine hS.two fun j hj => ?_
            have hjs : j < all.size := by
              unfold brkI at hj
              cases hoj : all[j]? with
              | none => rw [hoj] at hj; cases hj
              | some oj => exact (Array.getElem?_eq_some_iff.1 hoj).1
            rcases hw2 j hjs with h' | h'
            · rw [hj] at h'; cases h'
            · exact hWl j (by simpa using h')
          · rw [show SilX (soft.contains i) o Es ws = SameW ws from by funext w'; exact if_pos hl] at hy; exact hy
        · refine wpAnyB_first (X := ImOK Es) (W := []) ho (Region.noSelect_spec hsel) hQp (fun j hj => by cases hj) hbi (fun listed' w' hWl hS => hS.one) fuel listed a ws (Region.free_spec ho hfr) (by simpa using hrd) (fun j hj => by cases hj) ?_ hSf hrec
          rw [show SilX (soft.contains i) o Es ws = ImOK Es from by funext w'; exact if_neg hl] at hy; exact hy
      · cases hc
/-- A region of which the order is drawn, by one order: 'pre' are those that only look, 'post' come one by one. -/
theorem ADraw.ofP (hT : TOK P T) (hm : P.follows .mixedOrders = true) (ip : Bool) {ops : Array Oper} {r : Regs} {H : Heap} {Q : AX → Regs → Heap → Prop} (soft pre : List Nat) (post : List (Nat × Bool)) (hd : drawOKP ops soft pre post = true)
    (hQ : ∀ x r r' H, Q (.panic x) r H → Q (.panic x) r' H) (h : adrawP P T ip nt ops soft Q pre post r H) : ADraw P n0 nt ops r H Q := by
  refine ⟨fun id E0 w0 E a w hb => ?_⟩
  unfold drawOKP at hd
  simp only [Bool.and_eq_true, beq_iff_eq] at hd
  obtain ⟨⟨⟨h1, h2⟩, h3⟩, h4⟩ := hd
  split at h4
  · rename_i l hl
    have hb2 : Ext E0 w0 E { w with drawn := w.drawn + 1 } := ⟨hb.ext.le, hb.ext.new, hb.ext.imn, hb.ext.os, hb.ext.tape, hb.ext.output, hb.ext.size, hb.ext.keep⟩
    have hr2 : Rel E H { w with drawn := w.drawn + 1 } := ⟨hb.rel.len, hb.rel.blk, hb.rel.mp, hb.rel.inj, hb.rel.lt, hb.rel.im, hb.rel.imd, hb.rel.gl⟩
    have hnb : noBrk (brkI ops) (Array.replicate ops.size false) := fun j _ => by
      by_cases hj : j < ops.size
      · simp [hj]
      · simp [hj]
    have := preP_sound hT hb.len0 hb2 h1 hQ h3 pre _ l ops.size hl h4 (by omega) hnb (by simp) r H a ⟨rfl, .refl _ _, hr2, hb.rr, hb.nd⟩ h
    exact wp_region_any hm (wpAny_of_B _ _ _ _ this)
  · cases h4
end
end Go.AK
namespace Go.AK
open Go Go.RowKit
set_option linter.unusedSectionVars false
variable [Globs] [Defs]
set_option linter.unusedVariables false
/-! Drawn regions, all orders told one by one: a tree of what may come next. -/
mutual
inductive DT where
  | node (cs : DTs)
inductive DTs where
  | nil
  | cons (i : Nat) (t : DT) (rest : DTs)
end
def DTs.heads : DTs → List Nat
  | .nil => []
  | .cons i _ rest => i :: rest.heads
mutual
def chkT (ops : Array Oper) : DT → Nat → Array Bool → Bool
  | .node cs, n, listed => (Region.ready .any ops listed == cs.heads) && chkTs ops cs n listed
def chkTs (ops : Array Oper) : DTs → Nat → Array Bool → Bool
  | .nil, _, _ => true
  | .cons i t rest, n, listed => (match n with
    | 0 => false
    | m + 1 => chkT ops t m (listed.setIfInBounds i true)) && chkTs ops rest n listed
end
def chkPreT (ops : Array Oper) (soft : List Nat) : Array Bool → List Nat → Option (Array Bool)
  | listed, [] => some listed
  | listed, i :: π => match ops[i]? with
    | some o => if silK o.op && (Region.ready .any ops listed).contains i && Region.free .any ops listed i && !(isLd o.op && !soft.contains i) then chkPreT ops soft (listed.setIfInBounds i true) π else none
    | none => none
def drawOKT (ops : Array Oper) (soft pre : List Nat) (t : DT) : Bool :=
  Region.noSelect ops && Nat.ble pre.length ops.size &&
  match chkPreT ops soft (Array.replicate ops.size false) pre with
  | some l => chkT ops t (ops.size - pre.length) l
  | none => false
section
variable (P : Program) (T : TT)
mutual
def atree (ip : Bool) (nt : Nat) (all : Array Oper) (Q : AX → Regs → Heap → Prop) : DT → Regs → Heap → Prop
  | .node .nil, r, H => Q .normal r H
  | .node (.cons i t .nil), r, H => (match all[i]? with
    | some o => astep P T ip nt all r H o fun v r' H' => match v with
      | .ret _ => atree ip nt all Q t r' H'
      | .pan v => Q (.panic v) r' H'
    | none => False)
  | .node (.cons i t (.cons j u rest)), r, H => (match all[i]? with
    | some o => astep P T ip nt all r H o fun v r' H' => match v with
      | .ret _ => atree ip nt all Q t r' H'
      | .pan v => Q (.panic v) r' H'
    | none => False) ∧ atrees ip nt all Q (.cons j u rest) r H
def atrees (ip : Bool) (nt : Nat) (all : Array Oper) (Q : AX → Regs → Heap → Prop) : DTs → Regs → Heap → Prop
  | .nil, r, H => True
  | .cons i t rest, r, H => (match all[i]? with
    | some o => astep P T ip nt all r H o fun v r' H' => match v with
      | .ret _ => atree ip nt all Q t r' H'
      | .pan v => Q (.panic v) r' H'
    | none => False) ∧ atrees ip nt all Q rest r H
end
def adrawT (ip : Bool) (nt : Nat) (all : Array Oper) (soft : List Nat) (Q : AX → Regs → Heap → Prop) (t : DT) : List Nat → Regs → Heap → Prop
  | [], r, H => atree P T ip nt all Q t r H
  | i :: pre, r, H => match all[i]? with
    | some o => asilStep P T nt all true r H o fun r' => adrawT ip nt all soft Q t pre r' H
    | none => False
end
section
variable {P : Program} {T : TT} {n0 nt : Nat}
theorem wpOp_of_astep (hT : TOK P T) {ip : Bool} {E0 Es E : Env} {w0 ws w : World} {all : Array Oper} {Q : AX → Regs → Heap → Prop} (hl0 : E0.ρ.length = n0) (hE : Ext E0 w0 Es ws) {r : Regs} {H : Heap} {a : Act} (h : BR Es.ρ.length nt Es ws E r H a w)
    {i : Nat} {o : Oper} (ho : all[i]? = some o) {R : Regs → Heap → Prop} {next : Act → World → Prop}
    (hk : astep P T ip nt all r H o fun v r' H' => match v with | .ret _ => R r' H' | .pan v => Q (.panic v) r' H')
    (hn : ∀ r' H' E' a' w', R r' H' → BR Es.ρ.length nt Es ws E' r' H' a' w' → next a' w') : wpOp P all (Post n0 nt E0 w0 Q) i next a w := by
  have := astep_sound hT h hk (next := next) (Q := Post n0 nt E0 w0 Q) (fun x r' H' E' a' w' k1 k2 => hn r' H' E' a' w' k1 k2)
    (fun x r' H' E' w' v k1 k2 k3 => ⟨.panic x, E', r', H', ⟨v, rfl, k3⟩, ⟨hl0, hE.trans k2.ext, k2.rel, k2.rr, k2.nd⟩, k1⟩)
  unfold wpOp
  simp only [ho]
  split at this
  · rename_i hw; rw [if_pos hw]; exact .inl this
  · rename_i hw; rw [if_neg hw]; exact this
mutual
theorem tree_sound (hT : TOK P T) {ip : Bool} {E0 Es : Env} {w0 ws : World} {all : Array Oper} {Q : AX → Regs → Heap → Prop} (hl0 : E0.ρ.length = n0) (hE : Ext E0 w0 Es ws) :
    ∀ (t : DT) (n : Nat) (listed : Array Bool), chkT all t n listed = true → ∀ (E : Env) (w : World) (r : Regs) (H : Heap) (a : Act), BR Es.ρ.length nt Es ws E r H a w → atree P T ip nt all Q t r H →
      wpAnyB P .any all (Post n0 nt E0 w0 Q) (fun _ => false) (ImOK Es) (fun _ => True) n listed a w
  | .node .nil, n, listed, hc, E, w, r, H, a, h, hk => by
    simp only [chkT, Bool.and_eq_true, beq_iff_eq, DTs.heads] at hc
    have hr := hc.1
    have hk : Q .normal r H := by simpa only [atree] using hk
    have hq : Post n0 nt E0 w0 Q .normal a w := ⟨.normal, E, r, H, trivial, ⟨hl0, hE.trans h.ext, h.rel, h.rr, h.nd⟩, hk⟩
    cases n with
    | zero => exact ⟨hr, hq⟩
    | succ n => exact ⟨fun _ => hq, by rw [hr]; simp⟩
  | .node (.cons i t rest), n, listed, hc, E, w, r, H, a, h, hk => by
    simp only [chkT, Bool.and_eq_true, beq_iff_eq] at hc
    obtain ⟨hr, hc⟩ := hc
    cases n with
    | zero => simp [chkTs] at hc
    | succ n =>
      simp only [chkTs, Bool.and_eq_true] at hc
      have hk' : (match all[i]? with
        | some o => astep P T ip nt all r H o fun v r' H' => match v with | .ret _ => atree P T ip nt all Q t r' H' | .pan v => Q (.panic v) r' H'
        | none => False) ∧ atrees P T ip nt all Q rest r H := by
        cases rest with
        | nil => exact ⟨by simpa only [atree] using hk, by simp only [atrees]⟩
        | cons j u rest => simpa only [atree] using hk
      refine ⟨fun h0 => (by rw [hr] at h0; cases h0), ?_⟩
      rw [hr]
      intro k hki
      simp only [DTs.heads, List.mem_cons] at hki
      rcases hki with rfl | hki
      · cases ho : all[k]? with
        | none => rw [ho] at hk'; exact hk'.1.elim
        | some o =>
          rw [ho] at hk'
          exact wpOp_of_astep hT hl0 hE h ho (R := fun r' H' => atree P T ip nt all Q t r' H') hk'.1 fun r' H' E' a' w' k1 k2 =>
            ⟨⟨fun g o hg => k2.rel.im g o (k2.ext.le.im g o hg), fun _ => trivial⟩, tree_sound hT hl0 hE t n _ hc.1 E' w' r' H' a' k2 k1⟩
      · exact trees_sound hT hl0 hE rest n listed hc.2 E w r H a h hk'.2 k hki
theorem trees_sound (hT : TOK P T) {ip : Bool} {E0 Es : Env} {w0 ws : World} {all : Array Oper} {Q : AX → Regs → Heap → Prop} (hl0 : E0.ρ.length = n0) (hE : Ext E0 w0 Es ws) :
    ∀ (cs : DTs) (n : Nat) (listed : Array Bool), chkTs all cs (n + 1) listed = true → ∀ (E : Env) (w : World) (r : Regs) (H : Heap) (a : Act), BR Es.ρ.length nt Es ws E r H a w → atrees P T ip nt all Q cs r H →
      ∀ k ∈ cs.heads, wpOp P all (Post n0 nt E0 w0 Q) k (fun a' w' => Sf (fun _ => false) (ImOK Es) (fun _ => True) (listed.setIfInBounds k true) w' ∧ wpAnyB P .any all (Post n0 nt E0 w0 Q) (fun _ => false) (ImOK Es) (fun _ => True) n (listed.setIfInBounds k true) a' w') a w
  | .nil, n, listed, hc, E, w, r, H, a, h, hk => fun k hk => by simp [DTs.heads] at hk
  | .cons i t rest, n, listed, hc, E, w, r, H, a, h, hk => by
    simp only [chkTs, Bool.and_eq_true] at hc
    simp only [atrees] at hk
    intro k hki
    simp only [DTs.heads, List.mem_cons] at hki
    rcases hki with rfl | hki
    · cases ho : all[k]? with
      | none => rw [ho] at hk; exact hk.1.elim
      | some o =>
        rw [ho] at hk
        exact wpOp_of_astep hT hl0 hE h ho (R := fun r' H' => atree P T ip nt all Q t r' H') hk.1 fun r' H' E' a' w' k1 k2 =>
          ⟨⟨fun g o hg => k2.rel.im g o (k2.ext.le.im g o hg), fun _ => trivial⟩, tree_sound hT hl0 hE t n _ hc.1 E' w' r' H' a' k2 k1⟩
    · exact trees_sound hT hl0 hE rest n listed hc.2 E w r H a h hk.2 k hki
end
theorem preT_sound (hT : TOK P T) {ip : Bool} {E0 Es : Env} {w0 ws : World} {all : Array Oper} {Q : AX → Regs → Heap → Prop} (hl0 : E0.ρ.length = n0) (hE : Ext E0 w0 Es ws) (hsel : Region.noSelect all = true)
    (hQ : ∀ x r r' H, Q (.panic x) r H → Q (.panic x) r' H) {soft : List Nat} {t : DT} :
    ∀ (pre : List Nat) (listed l : Array Bool) (n : Nat), chkPreT all soft listed pre = some l → chkT all t n l = true →
    ∀ (r : Regs) (H : Heap) (a : Act), BR Es.ρ.length nt Es ws Es r H a ws → adrawT P T ip nt all soft Q t pre r H →
      wpAnyB P .any all (Post n0 nt E0 w0 Q) (fun _ => false) (ImOK Es) (fun _ => True) (pre.length + n) listed a ws
  | [], listed, l, n, hc, hc2, r, H, a, h, hk => by
    simp only [chkPreT, Option.some.injEq] at hc
    subst hc
    simp only [List.length_nil, Nat.zero_add]
    exact tree_sound hT hl0 hE t n listed hc2 Es ws r H a h (by simpa only [adrawT] using hk)
  | i :: pre, listed, l, n, hc, hc2, r, H, a, h, hk => by
    unfold chkPreT at hc
    cases ho : all[i]? with
    | none => rw [ho] at hc; cases hc
    | some o =>
      rw [ho] at hc
      simp only at hc
      split at hc
      · rename_i hcond
        simp only [Bool.and_eq_true, Bool.not_eq_true'] at hcond
        obtain ⟨⟨⟨hs, hrd⟩, hfr⟩, hld⟩ := hcond
        have hk' : asilStep P T nt all true r H o fun r' => adrawT P T ip nt all soft Q t pre r' H := by
          simpa only [adrawT, ho] using hk
        obtain ⟨v, hy, r', hk2, hbr⟩ := asilStep_sound hT h hk'
        have hrec := preT_sound hT hl0 hE hsel hQ pre _ l n hc hc2 r' H _ hbr hk2
        have hQp : ∀ c a' w', Post n0 nt E0 w0 Q (.panic c) (a'.put o.dst v) w' → Post n0 nt E0 w0 Q (.panic c) a' w' := by
          rintro c a' w' ⟨x, E, r, H, hx, hb, hq⟩
          cases x <;> first | exact hx.elim | skip
          refine ⟨_, E, [], H, hx, ⟨hb.len0, hb.ext, hb.rel, ⟨?_, fun t v ht => by cases ht⟩, ?_⟩, hQ _ _ _ _ hq⟩
          · have := hb.rr.size
            cases hd : o.dst <;> simpa [Act.put, hd] using this
          · have := hb.nd
            cases hd : o.dst <;> simpa [Act.put, hd] using this
        have hSf : Sf (fun _ => false) (ImOK Es) (fun _ => True) listed ws := ⟨h.rel.im, fun _ => trivial⟩
        rw [show (i :: pre).length + n = (pre.length + n) + 1 from by simp; omega]
        refine wpAnyB_first (X := ImOK Es) (W := []) ho (Region.noSelect_spec hsel) hQp (fun j hj => by cases hj) rfl (fun listed' w' hWl hS => hS.one) _ listed a ws (Region.free_spec ho hfr) (by simpa using hrd) (fun j hj => by cases hj) ?_ hSf hrec
        rw [show SilX true o Es ws = ImOK Es from by funext w'; simp [SilX]] at hy
        exact hy
      · cases hc
theorem ADraw.tree (hT : TOK P T) (hm : P.follows .mixedOrders = true) (ip : Bool) {ops : Array Oper} {r : Regs} {H : Heap} {Q : AX → Regs → Heap → Prop} (soft pre : List Nat) (t : DT) (hd : drawOKT ops soft pre t = true)
    (hQ : ∀ x r r' H, Q (.panic x) r H → Q (.panic x) r' H) (h : adrawT P T ip nt ops soft Q t pre r H) : ADraw P n0 nt ops r H Q := by
  refine ⟨fun id E0 w0 E a w hb => ?_⟩
  unfold drawOKT at hd
  simp only [Bool.and_eq_true] at hd
  obtain ⟨⟨h1, h2⟩, h4⟩ := hd
  replace h2 := Nat.le_of_ble_eq_true h2
  split at h4
  · rename_i l hl
    have hb2 : Ext E0 w0 E { w with drawn := w.drawn + 1 } := ⟨hb.ext.le, hb.ext.new, hb.ext.imn, hb.ext.os, hb.ext.tape, hb.ext.output, hb.ext.size, hb.ext.keep⟩
    have hr2 : Rel E H { w with drawn := w.drawn + 1 } := ⟨hb.rel.len, hb.rel.blk, hb.rel.mp, hb.rel.inj, hb.rel.lt, hb.rel.im, hb.rel.imd, hb.rel.gl⟩
    have := preT_sound hT hb.len0 hb2 h1 hQ pre _ l _ hl h4 r H a ⟨rfl, .refl _ _, hr2, hb.rr, hb.nd⟩ h
    rw [show pre.length + (ops.size - pre.length) = ops.size from by omega] at this
    exact wp_region_any hm (wpAny_of_B _ _ _ _ this)
  · cases h4
/-- What a region leaves, told otherwise. -/
theorem ADraw.post {ops : Array Oper} {r : Regs} {H : Heap} {Q Q' : AX → Regs → Heap → Prop} (h : ADraw P n0 nt ops r H Q') (hn : ∀ r H, Q' .normal r H → Gh n0 nt (fun r H => Q .normal r H) r H) (hx : ∀ x r H, x ≠ .normal → Q' x r H → Q x r H) : ADraw P n0 nt ops r H Q := by
  refine ⟨fun id E0 w0 E a w hb => wp_mono (h.out id E0 w0 E a w hb) fun e a' w' ⟨x, E', r', H', k1, k2, k3⟩ => ?_⟩
  by_cases hxn : x = .normal
  · subst hxn
    obtain ⟨E2, r2, H2, l1, l2⟩ := hn r' H' k3 E0 w0 E' a' w' k2
    exact ⟨.normal, E2, r2, H2, (by cases e <;> first | exact trivial | exact k1.elim), l1, l2⟩
  · exact ⟨x, E', r', H', k1, k2, hx x r' H' hxn k3⟩
end
end Go.AK
namespace Go.AK
open Go Go.RowKit
set_option linter.unusedSectionVars false
variable [Globs]
set_option linter.unusedVariables false
/-! '==' of structs and arrays, field by field. -/
section
variable {P : Program} {T : TT}
theorem part_cell (hT : TOK P T) {t : Nat} {ti : TI} (ht : tiOf T t = some ti) (hd : isAggD ti.d = false) {xs : Array Value} {off : Nat} {v : Value} (hv : xs[off]? = some v) (w : World) : (part t xs off).run P w = .ok v w := by
  simp [part, hT.isAgg ht, hd, hv]
theorem part_agg (hT : TOK P T) {t : Nat} {ti : TI} (ht : tiOf T t = some ti) (hd : isAggD ti.d = true) {xs : Array Value} {off : Nat} (w : World) : (part t xs off).run P w = .ok (.agg (xs.extract off (off + ti.sz))) w := by
  simp [part, hT.isAgg ht, hd, hT.sizeOf ht]
theorem eqf_cons {d : Nat} {xs ys : Array Value} {f : Field} {fs : List Field} {a b : Value} {r s : Bool} {w : World} (hn : f.name ≠ "_") (ha : (part f.type xs f.offset).run P w = .ok a w) (hb : (part f.type ys f.offset).run P w = .ok b w)
    (he : (Op.equalIn d f.type a b).run P w = .ok r w) (hr : (Op.eqFields d xs ys fs).run P w = .ok s w) : (Op.eqFields d xs ys (f :: fs)).run P w = .ok (r && s) w := by
  simp only [Op.eqFields, if_pos hn, Sem.run_bind, ha, hb, he, Result.andThen_ok]
  cases r
  · simp
  · simpa using hr
theorem eqf_nil {d : Nat} {xs ys : Array Value} {w : World} : (Op.eqFields d xs ys []).run P w = .ok true w := by simp [Op.eqFields]
theorem eqi_cons {d : Nat} {e : TypeId} {c : Nat} {xs ys : Array Value} {i : Nat} {is : List Nat} {a b : Value} {r s : Bool} {w : World} (ha : (part e xs (i * c)).run P w = .ok a w) (hb : (part e ys (i * c)).run P w = .ok b w) (he : (Op.equalIn d e a b).run P w = .ok r w) (hr : (Op.eqItems d e c xs ys is).run P w = .ok s w) : (Op.eqItems d e c xs ys (i :: is)).run P w = .ok (r && s) w := by
  simp only [Op.eqItems, Sem.run_bind, ha, hb, he, Result.andThen_ok]
  cases r
  · simp
  · simpa using hr
theorem eqi_nil {d : Nat} {e : TypeId} {c : Nat} {xs ys : Array Value} {w : World} : (Op.eqItems d e c xs ys []).run P w = .ok true w := by simp [Op.eqItems]
theorem eqi_of {d : Nat} {t e : TypeId} {n c : Nat} {xs ys : Array Value} {r : Bool} {w : World} (hu : P.underlying t = some (.array n e)) (hi : (P.info? e).isSome = true) (hc : P.cellsOf e = c) (h : (Op.eqItems d e c xs ys (List.range n)).run P w = .ok r w) : (Op.equalIn (d + 1) t (.agg xs) (.agg ys)).run P w = .ok r w := by
  obtain ⟨i, hi'⟩ := Option.isSome_iff_exists.mp hi
  rw [run_equalIn_array w d xs ys hu hi', hc]
  exact h
theorem eq_int (hT : TOK P T) {t : Nat} {ti : TI} {k : IntKind} (ht : tiOf T t = some ti) (hd : ti.d = .int k) (d : Nat) (a b : Int) (w : World) : (Op.equalIn (d + 1) t (.int k a) (.int k b)).run P w = .ok (a == b) w := by
  obtain ⟨u, hu, hk⟩ := hT.desc ht
  rw [hd] at hk
  obtain rfl := desc_int hk
  exact run_equalIn_int w d t k k a b hu
theorem eq_bool (hT : TOK P T) {t : Nat} {ti : TI} (ht : tiOf T t = some ti) (hd : ti.d = .bool) (d : Nat) (a b : Bool) (w : World) : (Op.equalIn (d + 1) t (.bool a) (.bool b)).run P w = .ok (a == b) w := by
  obtain ⟨u, hu, hk⟩ := hT.desc ht
  rw [hd] at hk
  obtain rfl := desc_bool hk
  exact run_equalIn_bool' w d t a b hu
/-- Who tells by its cells. -/
theorem cells_iff {xs ys : Array Value} {r : Bool} (hl : xs.size = ys.size) (hr : r = true ↔ ∀ (i : Nat) v u, xs.toList[i]? = some v → ys.toList[i]? = some u → v = u) : r = true ↔ xs = ys := by
  rw [hr]
  constructor
  · intro h
    refine Array.ext hl fun i h1 h2 => ?_
    exact h i _ _ (by simp [h1]) (by simp [h2])
  · rintro rfl i v u h1 h2
    rw [h1] at h2; exact Option.some.inj h2
end
end Go.AK
namespace Go.AK
open Go Go.RowKit
set_option linter.unusedSectionVars false
variable [Globs]
set_option linter.unusedVariables false
section
variable {P : Program} {T : TT} {n0 : Nat}
theorem VRP.un {E : Env} : ∀ (k : Nat) {cs : List AV} {vs : List Value}, VRP E cs vs → cs.length + k ≤ vs.length → VRP E (cs ++ List.replicate k .un) vs
  | k, x :: cs, _, ⟨v, vs', h1, h2, h3⟩, hl => by
    subst h1
    exact ⟨v, vs', rfl, h2, VRP.un k h3 (by simp at hl; omega)⟩
  | 0, [], vs, h, hl => by simpa using h
  | k + 1, [], [], h, hl => by simp at hl
  | k + 1, [], v :: vs, h, hl => by
    rw [List.nil_append, List.replicate_succ]
    exact ⟨v, vs, rfl, trivial, by simpa using VRP.un (E := E) k (cs := []) (vs := vs) trivial (by simp at hl ⊢; omega)⟩
/-- What lies in a row's room behind its length is there, whatever it is. -/
theorem Rel.pad {E : Env} {H : Heap} {w : World} (hR : Rel E H w) {i k j z n c : Nat} {ds cs : List AV} (hi : H[i]? = some (.c ds)) (hk : ds[k]? = some (.sl (some (j, 0)) z n c)) (hj : H[j]? = some (.c cs)) :
    Rel E (H.set j (.c (cs ++ List.replicate (c * z - cs.length) .un))) w := by
  have hjl : j < H.length := (List.getElem?_eq_some_iff.1 hj).1
  have hal : ∀ m, alive (H.set j (.c (cs ++ List.replicate (c * z - cs.length) .un))) m ↔ alive H m := fun m => by
    unfold alive
    by_cases e : j = m
    · subst e
      rw [List.getElem?_set, if_pos rfl, if_pos hjl, hj]
      exact ⟨fun _ => ⟨_, rfl, by simp⟩, fun _ => ⟨_, rfl, by simp⟩⟩
    · rw [List.getElem?_set, if_neg e]
  refine ⟨by rw [List.length_set]; exact hR.len, fun m ds' hm => ?_, fun m es hm => ?_, fun a b x x' h1 h2 => hR.inj a b x x' ((hal a).1 h1) ((hal b).1 h2), hR.lt, hR.im, fun m x h1 => hR.imd m x ((hal m).1 h1), hR.gl⟩
  · by_cases e : j = m
    · subst e
      rw [List.getElem?_set, if_pos rfl, if_pos hjl] at hm
      cases hm
      obtain ⟨g, f, b, t, h1, h2, h3⟩ := hR.blk j cs hj
      refine ⟨g, f, b, t, h1, h2, ?_⟩
      obtain ⟨g', f', b', t', k1, k2, k3⟩ := hR.blk i ds hi
      obtain ⟨v, k4, k5⟩ := k3.get hk
      obtain ⟨g2, f2, q2, o2, k6, k7, k8, k9⟩ := k5
      rw [h1] at k6
      cases k6
      refine VRP.un _ h3 ?_
      have := h3.length
      simp only [List.length_drop, Array.length_toList] at this ⊢
      rcases k9 with ⟨_, k9⟩ | rfl
      · omega
      · omega
    · rw [List.getElem?_set, if_neg e] at hm
      exact hR.blk m ds' hm
  · by_cases e : j = m
    · subst e
      rw [List.getElem?_set, if_pos rfl, if_pos hjl] at hm
      cases hm
    · rw [List.getElem?_set, if_neg e] at hm
      exact hR.mp m es hm
theorem GhR.pad {R : ARes → Heap → Prop} {x : ARes} {H : Heap} (i k j : Nat) {z n c : Nat} {ds cs : List AV} (hi : H[i]? = some (.c ds)) (hk : ds[k]? = some (.sl (some (j, 0)) z n c)) (hj : H[j]? = some (.c cs))
    (h : GhR n0 R x (H.set j (.c (cs ++ List.replicate (c * z - cs.length) .un)))) : GhR n0 R x H := fun E0 w0 E w hn he hR => h E0 w0 E w hn he (hR.pad hi hk hj)
theorem GhR.kill {R : ARes → Heap → Prop} {x : ARes} {H : Heap} (j : Nat) (h : GhR n0 R x (H.set j .dead)) : GhR n0 R x H := fun E0 w0 E w hn he hR => h E0 w0 E w hn he (hR.kill j)
/-- 'slices.overlaps' of two rows in two blocks. -/
theorem overlaps_apart (hT : TOK P T) {f : Nat} {fn : Func} {t r e : Nat} {ti te : TI} (hf : P.funcs[f]? = some fn) (hn : (fn.name == "runtime.NumGoroutine") = false) (hb : fn.body.isNone = true) (hx : Extern.findNext fn = none)
    (he : Extern.find fn = some (Extern.SlicesOverlaps.overlaps #[t, t] #[r])) (ht : tiOf T t = some ti) (hd : ti.d = .sl e) (hte : tiOf T e = some te) {j o z n c j' o' z' n' c' : Nat} {H : Heap} {cs cs' : List AV}
    (hne : j ≠ j') (hj : H[j]? = some (.c cs)) (hj' : H[j']? = some (.c cs')) (hpos : cs' ≠ []) :
    ACall P f [.sl (some (j, o)) z n c, .sl (some (j', o')) z' n' c'] H fun r H2 => r = .ret (.b false) ∧ H2 = H := by
  refine ⟨⟨fn, hf, hn⟩, fun E w vs hR hv => .inr ⟨.bool false, w, ?_, .ret (.b false), E, H, .refl E w, hR, ⟨rfl, rfl⟩, rfl⟩⟩
  obtain ⟨v1, vs1, h1, h2, v2, vs2, h3, h4, h5⟩ := hv
  obtain ⟨g, f0, q, o1, k1, rfl, k3, k4⟩ := h2
  obtain ⟨g', f', q', o1', l1, rfl, l3, l4⟩ := h4
  obtain ⟨a1, a2, b1, t1, a3, a4, a5⟩ := hR.blk j cs hj
  obtain ⟨c1, c2, b2, t2, c3, c4, c5⟩ := hR.blk j' cs' hj'
  rw [k1] at a3; cases a3
  rw [l1] at c3; cases c3
  have hvs : vs = #[.slice (some ⟨g, o1, none⟩) n c, .slice (some ⟨g', o1', none⟩) n' c'] := by
    rw [← Array.toList_inj, h1, h3, h5]
  subst hvs
  have hgg : g ≠ g' := fun e => hne (hR.inj j j' _ _ ⟨_, hj, by simp⟩ ⟨_, hj', by simp⟩ k1 l1 e)
  have hsz : b2.size ≠ 0 := fun e => by
    have := c5.length
    simp only [List.length_drop, Array.length_toList] at this
    have : cs'.length = 0 := by omega
    exact hpos (List.length_eq_zero_iff.1 this)
  obtain ⟨u, hu, hud⟩ := hT.desc ht
  rw [hd] at hud
  obtain rfl := desc_sl hud
  rw [run_callFunc_extern hf hn hb hx he]
  rw [Go.Lib.run_overlaps_apart w t r e hu te.sz (fun w => hT.sizeOf hte w) ⟨g, o1, none⟩ ⟨g', o1', none⟩ n c n' c' hgg t1 t2 b1.size b2.size (by simp [World.shape?, a4]) (by simp [World.shape?, c4]) hsz (by simp [World.frozen?, a4]) (by simp [World.frozen?, a4])]
  rfl
/-- A call within a greater heap, which is told anew behind it. -/
theorem ACall.frameH {f : Nat} {args : List AV} {H : Heap} {Kc K : ARes → Heap → Prop} (sel lend : List Nat) (hs : frameB H sel lend = true) {args' : List AV} {Hc : Heap} (ha : subs (callφ H sel lend) args = args') (hH : pick (callφ H sel lend) H sel = Hc) (h : ACall P f args' Hc Kc)
    (hk : ∀ r H2, Kc r H2 → (lend = [] ∨ (nroR r = true ∧ nroH H2 = true)) ∧ ∃ H', backH H.length sel H2 sel H = H' ∧ K (subR (backφ H.length sel) r) H') : ACall P f args H K :=
  ACall.frame sel lend hs ha hH h fun r H2 h2 => by
    obtain ⟨a, H', e, k⟩ := hk r H2 h2
    subst e
    exact ⟨a, k⟩
end
end Go.AK
namespace Go.AK
open Go Go.RowKit
set_option linter.unusedSectionVars false
variable [Globs] [Defs]
set_option linter.unusedVariables false
/-! Drawn regions in parts: what only looks comes in any order, then one operation alone, and so on. -/
def wOKH (ops : Array Oper) (L0 listed : Array Bool) (i : Nat) (W : List Nat) : Bool :=
  (W.all fun j => (match ops[j]? with
    | some o => o.after.any fun e => Region.binds .any e && (e.on == i || W.contains e.on)
    | none => false) && !listed.getD j false) && (List.range ops.size).all fun j => !brkI ops j || L0.getD j false || W.contains j
def chkPreH (ops : Array Oper) (L0 : Array Bool) : Array Bool → List Nat → Option (Array Bool)
  | listed, [] => some listed
  | listed, i :: π => match ops[i]? with
    | some o => if silK o.op && (Region.ready .any ops listed).contains i && Region.free .any ops listed i && (!isLd o.op || wOKH ops L0 listed i (waits ops i)) then chkPreH ops L0 (listed.setIfInBounds i true) π else none
    | none => none
def chkPh (ops : Array Oper) : Array Bool → List (List Nat × Nat) → List Nat → Bool
  | listed, [], last => match chkPreH ops listed listed last with
    | some l => Region.ready .any ops l == []
    | none => false
  | listed, (pre, i) :: ph, last => match chkPreH ops listed listed pre with
    | some l => (Region.ready .any ops l == [i]) && brkI ops i && !listed.getD i false && chkPh ops (l.setIfInBounds i true) ph last
    | none => false
def phLen : List (List Nat × Nat) → List Nat → Nat
  | [], last => last.length
  | (pre, _) :: ph, last => pre.length + (phLen ph last + 1)
def drawOKH (ops : Array Oper) (ph : List (List Nat × Nat)) (last : List Nat) : Bool :=
  Region.noSelect ops && (phLen ph last == ops.size) && chkPh ops (Array.replicate ops.size false) ph last
section
variable (P : Program) (T : TT)
def apre (nt : Nat) (all : Array Oper) (K : Regs → Heap → Prop) : List Nat → Regs → Heap → Prop
  | [], r, H => K r H
  | i :: pre, r, H => match all[i]? with
    | some o => asilStep P T nt all false r H o fun r' => apre nt all K pre r' H
    | none => False
def aph (ip : Bool) (nt : Nat) (all : Array Oper) (Q : AX → Regs → Heap → Prop) (last : List Nat) : List (List Nat × Nat) → Regs → Heap → Prop
  | [], r, H => apre P T nt all (fun r H => Q .normal r H) last r H
  | (pre, i) :: ph, r, H => apre P T nt all (fun r H => match all[i]? with
    | some o => astep P T ip nt all r H o fun v r' H' => match v with
      | .ret _ => aph ip nt all Q last ph r' H'
      | .pan v => Q (.panic v) r' H'
    | none => False) pre r H
end
section
variable {P : Program} {T : TT} {n0 nt : Nat}
def brkL (all : Array Oper) (L0 : Array Bool) (j : Nat) : Bool := brkI all j && !L0.getD j false
theorem wpAnyB_conv {ops : Array Oper} {Q : Exit → Act → World → Prop} {md : Region.Mode} {brk brk' : Nat → Bool} {S1 S2 S1' S2' : World → Prop} {i : Nat} (hi : brk i = true) (h1 : ∀ w, S1' w → S1 w) :
    ∀ (fuel : Nat) (listed : Array Bool) (a : Act) (w : World), listed.getD i false = true → wpAnyB P md ops Q brk' S1' S2' fuel listed a w → wpAnyB P md ops Q brk S1 S2 fuel listed a w
  | 0, listed, a, w, hl, h => h
  | fuel + 1, listed, a, w, hl, h => ⟨h.1, fun k hk => wpOp_mono (fun a' w' h' => ⟨⟨h1 _ h'.1.one, fun hn => by
      have := hn i hi
      rw [getD_set_true hl] at this; cases this⟩, wpAnyB_conv hi h1 fuel _ a' w' (getD_set_true hl) h'.2⟩) (h.2 k hk)⟩
theorem preH_sound (hT : TOK P T) {E0 Es : Env} {w0 ws : World} {all : Array Oper} {Q : AX → Regs → Heap → Prop} (hl0 : E0.ρ.length = n0) (hE : Ext E0 w0 Es ws) (hsel : Region.noSelect all = true)
    (hQ : ∀ x r r' H, Q (.panic x) r H → Q (.panic x) r' H) {L0 : Array Bool} {K : Regs → Heap → Prop} {n : Nat} {l : Array Bool}
    (hend : ∀ (r : Regs) (H : Heap) (a : Act), BR Es.ρ.length nt Es ws Es r H a ws → K r H → wpAnyB P .any all (Post n0 nt E0 w0 Q) (brkL all L0) (ImOK Es) (SameW ws) n l a ws) :
    ∀ (pre : List Nat) (listed : Array Bool), chkPreH all L0 listed pre = some l → noBrk (brkL all L0) listed →
    ∀ (r : Regs) (H : Heap) (a : Act), BR Es.ρ.length nt Es ws Es r H a ws → apre P T nt all K pre r H →
      wpAnyB P .any all (Post n0 nt E0 w0 Q) (brkL all L0) (ImOK Es) (SameW ws) (pre.length + n) listed a ws
  | [], listed, hc, hnb, r, H, a, h, hk => by
    simp only [chkPreH, Option.some.injEq] at hc
    subst hc
    simp only [List.length_nil, Nat.zero_add]
    exact hend r H a h (by simpa only [apre] using hk)
  | i :: pre, listed, hc, hnb, r, H, a, h, hk => by
    unfold chkPreH at hc
    cases ho : all[i]? with
    | none => rw [ho] at hc; cases hc
    | some o =>
      rw [ho] at hc
      simp only at hc
      split at hc
      · rename_i hcond
        simp only [Bool.and_eq_true, Bool.or_eq_true, Bool.not_eq_true'] at hcond
        obtain ⟨⟨⟨hs, hrd⟩, hfr⟩, hld⟩ := hcond
        have hk' : asilStep P T nt all false r H o fun r' => apre P T nt all K pre r' H := by
          simpa only [apre, ho] using hk
        obtain ⟨v, hy, r', hk2, hbr⟩ := asilStep_sound hT h hk'
        have hbi : brkL all L0 i = false := by unfold brkL brkI; rw [ho]; simp [hs]
        have hnb' : noBrk (brkL all L0) (listed.setIfInBounds i true) := fun j hj => by
          have hne : i ≠ j := fun e => by subst e; rw [hbi] at hj; cases hj
          rw [getD_set_ne false hne]; exact hnb j hj
        have hrec := preH_sound hT hl0 hE hsel hQ hend pre _ hc hnb' r' H _ hbr hk2
        have hQp : ∀ c a' w', Post n0 nt E0 w0 Q (.panic c) (a'.put o.dst v) w' → Post n0 nt E0 w0 Q (.panic c) a' w' := by
          rintro c a' w' ⟨x, E, r, H, hx, hb, hq⟩
          cases x <;> first | exact hx.elim | skip
          refine ⟨_, E, [], H, hx, ⟨hb.len0, hb.ext, hb.rel, ⟨?_, fun t v ht => by cases ht⟩, ?_⟩, hQ _ _ _ _ hq⟩
          · have := hb.rr.size
            cases hd : o.dst <;> simpa [Act.put, hd] using this
          · have := hb.nd
            cases hd : o.dst <;> simpa [Act.put, hd] using this
        have hSf : Sf (brkL all L0) (ImOK Es) (SameW ws) listed ws := ⟨h.rel.im, fun _ _ _ h => h⟩
        rw [show (i :: pre).length + n = (pre.length + n) + 1 from by simp; omega]
        by_cases hl : isLd o.op = true
        · have hw : wOKH all L0 listed i (waits all i) = true := by
            rcases hld with h' | h'
            · rw [h'] at hl; cases hl
            · exact h'
          generalize waits all i = W at hw
          simp only [wOKH, Bool.and_eq_true, List.all_eq_true, List.mem_range, Bool.or_eq_true, Bool.not_eq_true'] at hw
          obtain ⟨hw1, hw2⟩ := hw
          refine wpAnyB_first (X := SameW ws) (W := W) ho (Region.noSelect_spec hsel) hQp (fun j hj => ?_) hbi (fun listed' w' hWl hS => ?_) _ listed a ws (Region.free_spec ho hfr) (by simpa using hrd) (fun j hj => (hw1 j hj).2) ?_ hSf hrec
          · have h1 := (hw1 j hj).1
            cases hoj : all[j]? with
            | none => rw [hoj] at h1; cases h1
            | some oj =>
              rw [hoj] at h1
              obtain ⟨e, he, h2⟩ := Array.any_eq_true'.1 h1
              simp only [Bool.and_eq_true, Bool.or_eq_true, beq_iff_eq, List.contains_iff_mem] at h2
              exact ⟨oj, rfl, e, he, h2.1, h2.2⟩
          · refine hS.two fun j hj => ?_
            have hj1 : brkI all j = true := by unfold brkL at hj; exact (Bool.and_eq_true_iff.1 hj).1
            have hj2 : L0.getD j false = false := by
              unfold brkL at hj
              have := (Bool.and_eq_true_iff.1 hj).2
              simpa using this
            have hjs : j < all.size := by
              unfold brkI at hj1
              cases hoj : all[j]? with
              | none => rw [hoj] at hj1; cases hj1
              | some oj => exact (Array.getElem?_eq_some_iff.1 hoj).1
            rcases hw2 j hjs with (h' | h') | h'
            · rw [hj1] at h'; cases h'
            · rw [hj2] at h'; cases h'
            · exact hWl j (by simpa using h')
          · rw [show SilX false o Es ws = SameW ws from by funext w'; exact if_pos (by rw [hl]; rfl)] at hy; exact hy
        · refine wpAnyB_first (X := ImOK Es) (W := []) ho (Region.noSelect_spec hsel) hQp (fun j hj => by cases hj) hbi (fun listed' w' hWl hS => hS.one) _ listed a ws (Region.free_spec ho hfr) (by simpa using hrd) (fun j hj => by cases hj) ?_ hSf hrec
          rw [show SilX false o Es ws = ImOK Es from by funext w'; exact if_neg (by simp [hl])] at hy; exact hy
      · cases hc
theorem ph_sound (hT : TOK P T) {ip : Bool} {E0 : Env} {w0 : World} {all : Array Oper} {Q : AX → Regs → Heap → Prop} (hl0 : E0.ρ.length = n0) (hsel : Region.noSelect all = true)
    (hQ : ∀ x r r' H, Q (.panic x) r H → Q (.panic x) r' H) {last : List Nat} :
    ∀ (ph : List (List Nat × Nat)) (listed : Array Bool), chkPh all listed ph last = true → listed.size = all.size → ∀ (Es : Env) (ws : World), Ext E0 w0 Es ws →
    ∀ (r : Regs) (H : Heap) (a : Act), BR Es.ρ.length nt Es ws Es r H a ws → aph P T ip nt all Q last ph r H →
      wpAnyB P .any all (Post n0 nt E0 w0 Q) (brkL all listed) (ImOK Es) (SameW ws) (phLen ph last) listed a ws
  | [], listed, hc, hsz, Es, ws, hE, r, H, a, h, hk => by
    unfold chkPh at hc
    split at hc
    · rename_i l hl
      have hr : Region.ready .any all l = [] := by simpa using hc
      have hnb : noBrk (brkL all listed) listed := fun j hj => by
        unfold brkL at hj
        have := (Bool.and_eq_true_iff.1 hj).2
        simpa using this
      have := preH_sound (n := 0) hT hl0 hE hsel hQ (K := fun r H => Q .normal r H) (fun r H a h hk => ⟨hr, .normal, Es, r, H, trivial, ⟨hl0, hE, h.rel, h.rr, h.nd⟩, hk⟩) last listed hl hnb r H a h (by simpa only [aph] using hk)
      simpa [phLen] using this
    · cases hc
  | (pre, i) :: ph, listed, hc, hsz, Es, ws, hE, r, H, a, h, hk => by
    unfold chkPh at hc
    split at hc
    · rename_i l hl
      simp only [Bool.and_eq_true, beq_iff_eq, Bool.not_eq_true'] at hc
      obtain ⟨⟨⟨hr, hbi⟩, hun⟩, hc⟩ := hc
      have hlsz : l.size = all.size := by
        have : ∀ (pre : List Nat) (x y : Array Bool), chkPreH all listed x pre = some y → y.size = x.size := by
          intro pre
          induction pre with
          | nil => intro x y h; simp only [chkPreH, Option.some.injEq] at h; rw [h]
          | cons j pre ih =>
            intro x y h
            unfold chkPreH at h
            split at h
            · split at h
              · have := ih _ _ h
                simpa using this
              · cases h
            · cases h
        rw [this pre _ _ hl, hsz]
      have hnb : noBrk (brkL all listed) listed := fun j hj => by
        unfold brkL at hj
        have := (Bool.and_eq_true_iff.1 hj).2
        simpa using this
      have hbL : brkL all listed i = true := by unfold brkL; rw [hbi, hun]; rfl
      have hir : i ∈ Region.ready .any all l := by rw [hr]; simp
      obtain ⟨hunl, o, ho, _⟩ := mem_ready.1 hir
      have hlt : i < all.size := (Array.getElem?_eq_some_iff.1 ho).1
      have hset : (l.setIfInBounds i true).getD i false = true := by simp [hlsz, hlt]
      refine preH_sound (n := phLen ph last + 1) hT hl0 hE hsel hQ (K := fun r H => match all[i]? with
        | some o => astep P T ip nt all r H o fun v r' H' => match v with
          | .ret _ => aph P T ip nt all Q last ph r' H'
          | .pan v => Q (.panic v) r' H'
        | none => False) (fun r2 H2 a2 h2 hk2 => ?_) pre listed hl hnb r H a h (by simpa only [aph] using hk)
      rw [ho] at hk2
      refine ⟨fun h0 => (by rw [hr] at h0; cases h0), ?_⟩
      rw [hr]
      intro k hki
      have : k = i := by simpa using hki
      subst this
      refine wpOp_of_astep hT hl0 hE h2 ho (R := fun r' H' => aph P T ip nt all Q last ph r' H') hk2 fun r' H' E' a' w' k1 k2 => ⟨⟨fun g o hg => k2.rel.im g o (k2.ext.le.im g o hg), fun hn => ?_⟩, ?_⟩
      · rw [hn k hbL] at hset; cases hset
      · refine wpAnyB_conv hbL (fun w hw g o hg => hw g o (k2.ext.le.im g o hg)) _ _ a' w' hset
          (ph_sound hT hl0 hsel hQ ph _ hc (by simpa using hlsz) E' w' (hE.trans k2.ext) r' H' a' ⟨rfl, .refl _ _, k2.rel, k2.rr, k2.nd⟩ k1)
    · cases hc
theorem ADraw.ph (hT : TOK P T) (hm : P.follows .mixedOrders = true) (ip : Bool) {ops : Array Oper} {r : Regs} {H : Heap} {Q : AX → Regs → Heap → Prop} (ph : List (List Nat × Nat)) (last : List Nat) (hd : drawOKH ops ph last = true)
    (hQ : ∀ x r r' H, Q (.panic x) r H → Q (.panic x) r' H) (h : aph P T ip nt ops Q last ph r H) : ADraw P n0 nt ops r H Q := by
  refine ⟨fun id E0 w0 E a w hb => ?_⟩
  unfold drawOKH at hd
  simp only [Bool.and_eq_true, beq_iff_eq] at hd
  obtain ⟨⟨h1, h2⟩, h4⟩ := hd
  have hb2 : Ext E0 w0 E { w with drawn := w.drawn + 1 } := ⟨hb.ext.le, hb.ext.new, hb.ext.imn, hb.ext.os, hb.ext.tape, hb.ext.output, hb.ext.size, hb.ext.keep⟩
  have hr2 : Rel E H { w with drawn := w.drawn + 1 } := ⟨hb.rel.len, hb.rel.blk, hb.rel.mp, hb.rel.inj, hb.rel.lt, hb.rel.im, hb.rel.imd, hb.rel.gl⟩
  have := ph_sound hT hb.len0 h1 hQ ph _ h4 (by simp) E _ hb2 r H a ⟨rfl, .refl _ _, hr2, hb.rr, hb.nd⟩ h
  rw [h2] at this
  exact wp_region_any hm (wpAny_of_B _ _ _ _ this)
end
end Go.AK
namespace Go.AK
open Go Go.RowKit
set_option linter.unusedSectionVars false
variable [Globs] [Defs]
set_option linter.unusedVariables false
/-! Drawn regions in parts, of which the last one is told by all its orders. -/
def chkPhT (ops : Array Oper) (pre : List Nat) (t : DT) (m : Nat) : Array Bool → List (List Nat × Nat) → Bool
  | listed, [] => Nat.ble pre.length m && match chkPreT ops [] listed pre with
    | some l => chkT ops t (m - pre.length) l
    | none => false
  | listed, (p, i) :: ph => match chkPreH ops listed listed p with
    | some l => (Region.ready .any ops l == [i]) && brkI ops i && !listed.getD i false && chkPhT ops pre t m (l.setIfInBounds i true) ph
    | none => false
def phLenT (m : Nat) : List (List Nat × Nat) → Nat
  | [] => m
  | (p, _) :: ph => p.length + (phLenT m ph + 1)
def drawOKPT (ops : Array Oper) (ph : List (List Nat × Nat)) (pre : List Nat) (t : DT) (m : Nat) : Bool :=
  Region.noSelect ops && (phLenT m ph == ops.size) && chkPhT ops pre t m (Array.replicate ops.size false) ph
section
variable (P : Program) (T : TT)
def aphT (ip : Bool) (nt : Nat) (all : Array Oper) (Q : AX → Regs → Heap → Prop) (pre : List Nat) (t : DT) : List (List Nat × Nat) → Regs → Heap → Prop
  | [], r, H => adrawT P T ip nt all [] Q t pre r H
  | (p, i) :: ph, r, H => apre P T nt all (fun r H => match all[i]? with
    | some o => astep P T ip nt all r H o fun v r' H' => match v with
      | .ret _ => aphT ip nt all Q pre t ph r' H'
      | .pan v => Q (.panic v) r' H'
    | none => False) p r H
end
section
variable {P : Program} {T : TT} {n0 nt : Nat}
theorem phT_sound (hT : TOK P T) {ip : Bool} {E0 : Env} {w0 : World} {all : Array Oper} {Q : AX → Regs → Heap → Prop} (hl0 : E0.ρ.length = n0) (hsel : Region.noSelect all = true)
    (hQ : ∀ x r r' H, Q (.panic x) r H → Q (.panic x) r' H) {pre : List Nat} {t : DT} {m : Nat} :
    ∀ (ph : List (List Nat × Nat)) (listed : Array Bool), chkPhT all pre t m listed ph = true → listed.size = all.size → ∀ (Es : Env) (ws : World), Ext E0 w0 Es ws →
    ∀ (r : Regs) (H : Heap) (a : Act), BR Es.ρ.length nt Es ws Es r H a ws → aphT P T ip nt all Q pre t ph r H →
      ∃ brk S1 S2, (∀ w, S1 w → ImOK Es w) ∧ wpAnyB P .any all (Post n0 nt E0 w0 Q) brk S1 S2 (phLenT m ph) listed a ws
  | [], listed, hc, hsz, Es, ws, hE, r, H, a, h, hk => by
    unfold chkPhT at hc
    simp only [Bool.and_eq_true] at hc
    obtain ⟨h2, hc⟩ := hc
    replace h2 := Nat.le_of_ble_eq_true h2
    split at hc
    · rename_i l hl
      have := preT_sound hT hl0 hE hsel hQ pre listed l _ hl hc r H a h (by simpa only [aphT] using hk)
      rw [show pre.length + (m - pre.length) = m from by omega] at this
      exact ⟨_, _, _, fun w h => h, this⟩
    · cases hc
  | (p, i) :: ph, listed, hc, hsz, Es, ws, hE, r, H, a, h, hk => by
    unfold chkPhT at hc
    split at hc
    · rename_i l hl
      simp only [Bool.and_eq_true, beq_iff_eq, Bool.not_eq_true'] at hc
      obtain ⟨⟨⟨hr, hbi⟩, hun⟩, hc⟩ := hc
      have hlsz : l.size = all.size := by
        have : ∀ (pre : List Nat) (x y : Array Bool), chkPreH all listed x pre = some y → y.size = x.size := by
          intro pre
          induction pre with
          | nil => intro x y h; simp only [chkPreH, Option.some.injEq] at h; rw [h]
          | cons j pre ih =>
            intro x y h
            unfold chkPreH at h
            split at h
            · split at h
              · have := ih _ _ h
                simpa using this
              · cases h
            · cases h
        rw [this p _ _ hl, hsz]
      have hnb : noBrk (brkL all listed) listed := fun j hj => by
        unfold brkL at hj
        have := (Bool.and_eq_true_iff.1 hj).2
        simpa using this
      have hbL : brkL all listed i = true := by unfold brkL; rw [hbi, hun]; rfl
      have hir : i ∈ Region.ready .any all l := by rw [hr]; simp
      obtain ⟨hunl, o, ho, _⟩ := mem_ready.1 hir
      have hlt : i < all.size := (Array.getElem?_eq_some_iff.1 ho).1
      have hset : (l.setIfInBounds i true).getD i false = true := by simp [hlsz, hlt]
      refine ⟨brkL all listed, ImOK Es, SameW ws, fun w h => h, ?_⟩
      refine preH_sound (n := phLenT m ph + 1) hT hl0 hE hsel hQ (K := fun r H => match all[i]? with
        | some o => astep P T ip nt all r H o fun v r' H' => match v with
          | .ret _ => aphT P T ip nt all Q pre t ph r' H'
          | .pan v => Q (.panic v) r' H'
        | none => False) (fun r2 H2 a2 h2 hk2 => ?_) p listed hl hnb r H a h (by simpa only [aphT] using hk)
      rw [ho] at hk2
      refine ⟨fun h0 => (by rw [hr] at h0; cases h0), ?_⟩
      rw [hr]
      intro k hki
      have : k = i := by simpa using hki
      subst this
      refine wpOp_of_astep hT hl0 hE h2 ho (R := fun r' H' => aphT P T ip nt all Q pre t ph r' H') hk2 fun r' H' E' a' w' k1 k2 => ⟨⟨fun g o hg => k2.rel.im g o (k2.ext.le.im g o hg), fun hn => ?_⟩, ?_⟩
      · rw [hn k hbL] at hset; cases hset
      · obtain ⟨brk', S1', S2', hS, hw⟩ := phT_sound hT hl0 hsel hQ ph _ hc (by simpa using hlsz) E' w' (hE.trans k2.ext) r' H' a' ⟨rfl, .refl _ _, k2.rel, k2.rr, k2.nd⟩ k1
        exact wpAnyB_conv hbL (fun w hw g o hg => hS w hw g o (k2.ext.le.im g o hg)) _ _ a' w' hset hw
    · cases hc
theorem ADraw.phT (hT : TOK P T) (hm : P.follows .mixedOrders = true) (ip : Bool) {ops : Array Oper} {r : Regs} {H : Heap} {Q : AX → Regs → Heap → Prop} (ph : List (List Nat × Nat)) (pre : List Nat) (t : DT) (m : Nat) (hd : drawOKPT ops ph pre t m = true)
    (hQ : ∀ x r r' H, Q (.panic x) r H → Q (.panic x) r' H) (h : aphT P T ip nt ops Q pre t ph r H) : ADraw P n0 nt ops r H Q := by
  refine ⟨fun id E0 w0 E a w hb => ?_⟩
  unfold drawOKPT at hd
  simp only [Bool.and_eq_true, beq_iff_eq] at hd
  obtain ⟨⟨h1, h2⟩, h4⟩ := hd
  have hb2 : Ext E0 w0 E { w with drawn := w.drawn + 1 } := ⟨hb.ext.le, hb.ext.new, hb.ext.imn, hb.ext.os, hb.ext.tape, hb.ext.output, hb.ext.size, hb.ext.keep⟩
  have hr2 : Rel E H { w with drawn := w.drawn + 1 } := ⟨hb.rel.len, hb.rel.blk, hb.rel.mp, hb.rel.inj, hb.rel.lt, hb.rel.im, hb.rel.imd, hb.rel.gl⟩
  obtain ⟨_, _, _, _, this⟩ := phT_sound hT hb.len0 h1 hQ ph _ h4 (by simp) E _ hb2 r H a ⟨rfl, .refl _ _, hr2, hb.rr, hb.nd⟩ h
  rw [h2] at this
  exact wp_region_any hm (wpAny_of_B _ _ _ _ this)
end
end Go.AK
/-! A loop, round by round. -/
namespace Go.AK
open Go Go.RowKit
set_option linter.unusedSectionVars false
variable [Globs] [Defs]
section
variable {P : Program} {T : TT} {ip : Bool} {n0 nt : Nat}
/-- At most so many rounds. -/
structure ALoopR (P : Program) (n0 nt : Nat) (c : Code) (n : Nat) (r : Regs) (H : Heap) (Q : AX → Regs → Heap → Prop) : Prop where
  out : ∀ E0 w0 E a w, BR n0 nt E0 w0 E r H a w → Code.rounds P c (Post n0 nt E0 w0 Q) n a w
theorem ALoopR.loop {c : Code} {n : Nat} {r : Regs} {H : Heap} {Q : AX → Regs → Heap → Prop} (h : ALoopR P n0 nt c n r H Q) : ALoop P n0 nt c r H Q :=
  ⟨fun E0 w0 E a w hb => wp_loop_rounds n (h.out E0 w0 E a w hb)⟩
theorem ALoopR.step (hT : TOK P T) {c : Code} {n : Nat} {r : Regs} {H : Heap} {Q : AX → Regs → Heap → Prop}
    (h : AW P T ip n0 nt c r H fun e r' H' => match e with
      | .normal => ALoopR P n0 nt c n r' H' Q
      | .exit i => Q (.exit i) r' H'
      | .ret => Q .ret r' H'
      | .panic v => Q (.panic v) r' H') : ALoopR P n0 nt c (n + 1) r H Q := by
  refine ⟨fun E0 w0 E a w hb => ?_⟩
  refine wp_mono (AW_sound hT c r H _ h E0 w0 E a w hb) fun e a' w' ⟨x', E2, r2, H2, l1, l2, l3⟩ => ?_
  cases x' <;> cases e <;> first | exact l1.elim | skip
  · exact l3.out E0 w0 E2 a' w' l2
  · cases l1; exact ⟨.exit _, E2, r2, H2, rfl, l2, l3⟩
  · exact ⟨.ret, E2, r2, H2, trivial, l2, l3⟩
  · exact ⟨.panic _, E2, r2, H2, l1, l2, l3⟩
theorem ALoopR.gh {c : Code} {n : Nat} {r : Regs} {H : Heap} {Q : AX → Regs → Heap → Prop} (h : Gh n0 nt (fun r H => ALoopR P n0 nt c n r H Q) r H) : ALoopR P n0 nt c n r H Q := by
  refine ⟨fun E0 w0 E a w hb => ?_⟩
  obtain ⟨E', r', H', h1, h2⟩ := h E0 w0 E a w hb
  exact h2.out E0 w0 E' a w h1
theorem ALoopR.regs {c : Code} {n : Nat} {r : Regs} {H : Heap} {Q : AX → Regs → Heap → Prop} (ts : List Nat) {r' : Regs} (hr : keepR ts r = r') (h : ALoopR P n0 nt c n r' H Q) : ALoopR P n0 nt c n r H Q := ALoopR.gh (Gh.regs ts (Gh.of (by rw [hr]; exact h)))
theorem ALoopR.to {c : Code} {n : Nat} {r : Regs} {H H' : Heap} {Q : AX → Regs → Heap → Prop} (ts : List Nat) {r' : Regs} (hr : keepR ts r = r') (hH : H = H') (h : ALoopR P n0 nt c n r' H' Q) : ALoopR P n0 nt c n r H Q := by
  subst hH
  exact ALoopR.regs ts hr h
end
end Go.AK
namespace Go.AK
open Go Go.RowKit
set_option linter.unusedSectionVars false
variable [Globs]
set_option linter.unusedVariables false
/-- Whatever was there stands. -/
theorem Rel.below {E : Env} {H : Heap} {w w' : World} (h : Rel E H w) (hb : Below w.heap.size w w') : Rel E H w' ∧ Ext E w E w' := by
  have hk : ∀ k o, w.heap[k]? = some o → w'.heap[k]? = some o := fun k o e => by
    have hl := (Array.getElem?_eq_some_iff.mp e).1
    rw [hb.block k hl]; exact e
  refine ⟨⟨h.len, fun j cs hj => ?_, fun j es hj => ?_, h.inj, fun j x hx => Nat.lt_of_lt_of_le (h.lt j x hx) hb.size, fun g o hg => hk g o (h.im g o hg), h.imd, h.gl⟩, ⟨.refl E, fun j x hj hx => ?_, fun _ _ h => .inl h, hb.os, hb.tape, hb.output, hb.size, fun g hg _ => hb.block g hg⟩⟩
  · obtain ⟨g, f, c, t, e1, e2, e3⟩ := h.blk j cs hj
    exact ⟨g, f, c, t, e1, hk _ _ e2, e3⟩
  · obtain ⟨g, f, q, es', k, e1, e2, e3⟩ := h.mp j es hj
    exact ⟨g, f, q, es', k, e1, hk _ _ e2, e3⟩
  · have := (List.getElem?_eq_some_iff.mp hx).1; omega
section
variable {P : Program}
/-- A contract of the kit's own, as a call's: it leaves what was there as it was. -/
theorem ACall.below {f : Nat} {args : List AV} {H : Heap} {x : AV} (hn : ∃ fn, P.funcs[f]? = some fn ∧ (fn.name == "runtime.NumGoroutine") = false ∧ fn.body.isNone = false)
    (h : ∀ (E : Env) (w : World) (vs : Array Value), Rel E H w → VRL E args vs.toList → Calls P f vs w fun e w' => Below w.heap.size w w' ∧ ∃ v, e = .returned v ∧ ∀ E', VR E' x v) :
    ACall P f args H fun r H' => r = .ret x ∧ H' = H := by
  obtain ⟨fn, h1, h2, h3⟩ := hn
  refine ⟨⟨fn, h1, h2⟩, fun E w vs hR hv => .inl ⟨fn, h1, h3, (h E w vs hR hv).mono fun e w' ⟨hb, v, he, hx⟩ => ?_⟩⟩
  subst he
  obtain ⟨k1, k2⟩ := hR.below hb
  exact ⟨.ret x, E, H, k2, k1, ⟨rfl, rfl⟩, hx E⟩
end
end Go.AK
/-! A deferred closure that ends well, and stops a panic. -/
namespace Go.AK
open Go Go.RowKit
set_option linter.unusedSectionVars false
variable [Globs]
set_option linter.unusedVariables false
section
variable {P : Program} {T : TT}
/-- Of a function that returns, or that panics with a value. -/
def defMode (E : Env) : Option AV → FrameMode → Prop
  | none, u => u = .returning
  | some x, u => ∃ v, u = .panicking [{ v, recovered := false }] ∧ VR E x v
/-- What a deferred closure does, of a function that returns, or that panics with a value. -/
structure ADefer (P : Program) (f : Nat) (caps : List AV) (pv : Option AV) (H : Heap) (K : Heap → Prop) : Prop where
  there : ∃ fn, P.funcs[f]? = some fn ∧ (fn.name == "runtime.NumGoroutine") = false ∧ fn.body.isNone = false
  run : ∀ (E : Env) (w : World) (vs : Array Value) (u : FrameMode), Rel E H w → VRL E caps vs.toList →
    defMode E pv u →
    CallsD P f vs u w fun e u' w' => (∃ v, e = .returned v) ∧ settle u' = .returning ∧ ∃ E' H', Ext E w E' w' ∧ Rel E' H' w' ∧ K H'
/-- The body behind the defer. -/
def AfterD (P : Program) (T : TT) (rs : List ResultVar) (nt fc : Nat) (us : List AV) (B : Code) (r : Regs) (H : Heap) (K : ARes → Heap → Prop) : Prop :=
  ∀ ds : List Deferred, @AW _ ⟨⟨ds⟩⟩ P T false H.length nt B r H fun x r' H' => match x with
    | .normal => ADefer P fc us none H' fun H'' => aresults T r' H'' rs fun vs => one vs fun v => K (.ret v) H''
    | .ret => ADefer P fc us none H' fun H'' => aresults T r' H'' rs fun vs => one vs fun v => K (.ret v) H''
    | .panic v => ADefer P fc us (some v) H' fun H'' => aresults T r' H'' rs fun vs => one vs fun v => K (.ret v) H''
    | .exit _ => False
theorem ADefer.leaves {fc : Nat} {us : List AV} {pv : Option AV} {H : Heap} {K : Heap → Prop} (h : ADefer P fc us pv H K) {E : Env} {w : World} {cap : Array Value} {u : FrameMode} (hR : Rel E H w) (hv : VRL E us cap.toList)
    (hu : defMode E pv u) {fn : Func} {tmps : Array Value} {R : Ending → World → Prop}
    (hk : ∀ E' H' w', Ext E w E' w' → Rel E' H' w' → K H' → Leaves P fn tmps R [] .returning w') :
    Leaves P fn tmps R [{ target := .fn (.func fc) cap, args := #[] }] u w := by
  have hur : u ≠ .run := by
    cases pv with
    | none => rw [show u = .returning from hu]; exact nofun
    | some x => obtain ⟨v, e, _⟩ := hu; rw [e]; exact nofun
  obtain ⟨fn', h1, h2, h3⟩ := h.there
  refine leaves_cons (f := fc) (args := cap) hur ?_ ?_
  · have hp : ∀ w, (program : Sem Program).run P w = .ok P w := fun _ => rfl
    simp only [invoke, callFunc, Sem.run_bind, hp, Result.andThen_ok, h1, h2, h3, Bool.false_eq_true, if_false, Sem.run_pure]
    simp
  · refine (h.run E w cap u hR hv hu).mono ?_
    rintro e u' w' ⟨⟨v, rfl⟩, hs, E', H', k1, k2, k3⟩
    show Leaves P fn tmps R [] (settle u') w'
    rw [hs]
    exact hk E' H' w' k1 k2 k3
theorem BR.parts {D : Defs} {n0 nt : Nat} {E0 E : Env} {w0 w : World} {r : Regs} {H : Heap} {a : Act} (h : @BR _ D n0 nt E0 w0 E r H a w) : Ext E0 w0 E w ∧ Rel E H w ∧ RR nt E r a ∧ a.defers = @Defs.ds D := ⟨h.ext, h.rel, h.rr, h.nd⟩
theorem wpOps_value {ops : Array Oper} {Q : Exit → Act → World → Prop} {i : Nat} {rest : List Nat} {a : Act} {w : World} {o : Oper} {v : Value} (ho : ops[i]? = some o) (hg : o.guard = none) (hr : (execOp a.eval o).run P w = .ok (.value v) w)
    (h : wpOps P ops Q rest (a.put o.dst v) w) : wpOps P ops Q (i :: rest) a w := by
  have hw : Region.wanted o (yielded ops a.tmps) = true := by simp [Region.wanted, hg]
  simp only [wpOps, ho, hw, if_true]
  refine .inl ?_
  unfold Oper.wp
  rw [hr]
  exact h
theorem wpOps_defer {ops : Array Oper} {Q : Exit → Act → World → Prop} {i : Nat} {rest : List Nat} {a : Act} {w : World} {o : Oper} {d : Deferred} (ho : ops[i]? = some o) (hg : o.guard = none) (hr : (execOp a.eval o).run P w = .ok (.defer d) w)
    (h : wpOps P ops Q rest ({ a with defers := d :: a.defers }.put o.dst undef) w) : wpOps P ops Q (i :: rest) a w := by
  have hw : Region.wanted o (yielded ops a.tmps) = true := by simp [Region.wanted, hg]
  simp only [wpOps, ho, hw, if_true]
  refine .inl ?_
  unfold Oper.wp
  rw [hr]
  exact h
theorem ACall.enterD (hT : TOK P T) {f fc d id : Nat} {fn : Func} {A0 A1 B : Code} {caps : Array Operand} {t1 t2 : Nat} {p1 p2 : String} {af1 af2 : Array Edge} {args : List AV} {H : Heap} {K : ARes → Heap → Prop} (hf : P.funcs[f]? = some fn)
    (hb : fn.body = some (A0.seq (A1.seq ((Code.region id #[{ dst := some d, op := .makeFunc (.func fc) #[] caps, type := t1, pos := p1, after := af1, guard := none }, { dst := none, op := .defer { callee := .value (.tmp d), args := #[], argTypes := #[] }, type := t2, pos := p2, after := af2, guard := none }] false).seq B))))
    (hn : (fn.name == "runtime.NumGoroutine") = false) (hl : Nat.ble args.length fn.ntmps = true) (hd : Nat.blt d fn.ntmps = true)
    (h : AW P T false H.length fn.ntmps A0 (argR 0 args) H fun e r H1 => match e with
      | .normal => AW P T false H.length fn.ntmps A1 r H1 fun e r H2 => match e with
        | .normal => evalsK r caps.toList fun us => AfterD P T fn.results.toList fn.ntmps fc us B ((d, .fn (.func fc) [] us) :: r) H2 K
        | .ret => aresults T r H2 fn.results.toList fun vs => one vs fun v => K (.ret v) H2
        | _ => False
      | _ => False) : ACall P f args H K := by
  refine ⟨⟨fn, hf, hn⟩, fun E w vs hR hv => .inl ⟨fn, hf, by rw [hb]; rfl, ?_⟩⟩
  replace hl := Nat.le_of_ble_eq_true hl
  have hdl : d < fn.ntmps := Nat.lt_of_succ_le (Nat.le_of_ble_eq_true hd)
  have hvl := hv.length
  have hvs : vs.size = args.length := by simpa using hvl
  have hbr : BR H.length fn.ntmps E w E (argR 0 args) H { tmps := vs ++ Array.replicate (fn.ntmps - vs.size) undef, defers := [] } w := by
    refine ⟨hR.len, .refl E w, hR, ⟨by simp; omega, fun t v ht => ?_⟩, rfl⟩
    obtain ⟨_, h2⟩ := argR_get ht
    simp only [Nat.sub_zero] at h2
    have htl := (List.getElem?_eq_some_iff.mp h2).1
    obtain ⟨u, h3, h4⟩ := hv.get h2
    refine ⟨by omega, ?_⟩
    have h5 : vs[t]? = some u := by simpa using h3
    have h6 : (vs ++ Array.replicate (fn.ntmps - vs.size) undef).getD t undef = u := by
      rw [Array.getD_eq_getD_getElem?, Array.getElem?_append_left (by omega), h5]; rfl
    show VR E v ((vs ++ Array.replicate (fn.ntmps - vs.size) undef).getD t undef)
    rw [h6]; exact h4
  refine calls_of_wp_defers hf hb ?_
  -- what is answered
  have fin : ∀ (E' : Env) (r' : Regs) (H' : Heap) (a' : Act) (w' : World), Ext E w E' w' → Rel E' H' w' → RR fn.ntmps E' r' a' → (aresults T r' H' fn.results.toList fun vs => one vs fun v => K (.ret v) H') →
      ∃ v, (results fn a'.tmps).run P w' = .ok v w' ∧ ∃ r E' H', Ext E w E' w' ∧ Rel E' H' w' ∧ K r H' ∧
        match r, Ending.returned v with
        | .ret x, .returned v => VR E' x v
        | .pan x, .panicked chain => ∃ v, chain = [{ v, recovered := false }] ∧ VR E' x v
        | _, _ => False := by
    intro E' r' H' a' w' hE hR' hrr k3
    have hb3 : BR H.length fn.ntmps E w E' r' H' { a' with defers := [] } w' := ⟨hR.len, hE, hR', ⟨hrr.size, hrr.regs⟩, rfl⟩
    obtain ⟨us, ws, h1, h2, h3, h4⟩ := aresults_sound hT hb3 _ _ k3
    have hrun : ∀ g : ResultVar → Sem Value, (fn.results.toList.mapM g).run P w' = .ok ws w' → (fn.results.mapM g).run P w' = .ok ws.toArray w' := by
      intro g hg
      rw [Array.mapM_eq_mapM_toList, Sem.run_map, hg]; rfl
    have h5 := hrun _ h4
    have hul := h2.length
    unfold one at h1
    split at h1
    · rename_i v
      obtain ⟨u, hu, h6⟩ := vrl_one h2
      subst hu
      refine ⟨u, ?_, _, E', H', hE, hR', h1, h6⟩
      simp only [results_eq, Sem.run_bind, h5, Result.andThen_ok]
      simp
    · rename_i hne
      refine ⟨.tuple ws.toArray, ?_, _, E', H', hE, hR', h1, ⟨_, rfl, by simpa using h2⟩⟩
      simp only [results_eq, Sem.run_bind, h5, Result.andThen_ok]
      have hsz : ¬ ws.length = 1 := by
        intro e
        rw [hul] at e
        obtain ⟨v, hv⟩ := List.length_eq_one_iff.mp e
        exact hne v hv
      simp [hsz]
  refine wp_seq ?_
  refine wp_mono (AW_sound hT A0 _ _ _ h E w E _ w hbr) fun e a' w' ⟨x, E1, r1, H1, k1, k2, k3⟩ => ?_
  cases x <;> cases e <;> first | exact k1.elim | exact k3.elim | skip
  refine wp_seq ?_
  refine wp_mono (AW_sound hT A1 _ _ _ k3 E w E1 a' w' k2) fun e a2 w2 ⟨x, E2, r2, H2, l1, l2, l3⟩ => ?_
  cases x <;> cases e <;> first | exact l1.elim | exact l3.elim | skip
  · -- the defer
    refine wp_seq (wp_region ?_)
    obtain ⟨us, m1, m2⟩ := evalsK_sound l2.rr l3
    have hnd : a2.defers = [] := l2.nd
    let cap : Array Value := caps.map a2.eval
    have hcap : VRL E2 us cap.toList := by simpa [cap] using m1
    let a3 : Act := a2.put (some d) (.func (.func fc) #[] cap)
    let a4 : Act := ({ a3 with defers := [{ target := .fn (.func fc) cap, args := #[] }] } : Act)
    have hrr3 : RR fn.ntmps E2 ((d, .fn (.func fc) [] us) :: r2) a3 := l2.rr.put hdl ⟨_, _, rfl, rfl, hcap⟩
    have hsz : a2.tmps.size = fn.ntmps := l2.rr.size
    have hget : a3.eval (.tmp d) = .func (.func fc) #[] cap := by
      show (a2.put (some d) (.func (.func fc) #[] cap)).tmps.getD d undef = _
      simp [Act.put, hsz, hdl]
    show wpOps P _ _ (List.range 2) a2 w2
    rw [show List.range 2 = [0, 1] from rfl]
    refine wpOps_value (o := { dst := some d, op := Op.makeFunc (Fn.func fc) #[] caps, type := t1, pos := p1, after := af1, guard := none }) (v := .func (.func fc) #[] cap) rfl rfl (by simp [execOp, Instr.makeFunc, cap]) ?_
    refine wpOps_defer (a := a3) (o := { dst := none, op := Op.defer { callee := .value (.tmp d), args := #[], argTypes := #[] }, type := t2, pos := p2, after := af2, guard := none }) (d := { target := .fn (.func fc) cap, args := #[] }) rfl rfl ?_ ?_
    · simp [execOp, resolve, hget, Deferred.ofValue]
    show wpOps P _ _ [] { a3 with defers := { target := .fn (.func fc) cap, args := #[] } :: a3.defers } w2
    rw [show a3.defers = [] from hnd]
    show B.wp P _ _ w2
    have hb4 : @BR _ ⟨⟨[{ target := .fn (.func fc) cap, args := #[] }]⟩⟩ H2.length fn.ntmps E2 w2 E2 ((d, .fn (.func fc) [] us) :: r2) H2 { a3 with defers := [{ target := .fn (.func fc) cap, args := #[] }] } w2 :=
      @BR.mk _ ⟨⟨[{ target := .fn (.func fc) cap, args := #[] }]⟩⟩ _ _ _ _ _ _ _ { a3 with defers := [{ target := .fn (.func fc) cap, args := #[] }] } _ l2.rel.len (.refl _ _) l2.rel ⟨hrr3.size, fun t v ht => hrr3.regs t v ht⟩ rfl
    refine wp_mono (@AW_sound _ ⟨⟨[{ target := .fn (.func fc) cap, args := #[] }]⟩⟩ P T false H2.length fn.ntmps hT B _ _ _ (m2 [{ target := .fn (.func fc) cap, args := #[] }]) E2 w2 E2 _ w2 hb4) fun e a5 w5 ⟨x, E5, r5, H5, n1, n2, n3⟩ => ?_
    obtain ⟨n2e, n2r, n2q, n2d⟩ := BR.parts n2
    have hnd5 : a5.defers = [{ target := .fn (.func fc) cap, args := #[] }] := n2d
    have hcap5 : VRL E5 us cap.toList := hcap.mono n2e.le
    cases x <;> cases e <;> first | exact n1.elim | exact n3.elim | skip
    · show Leaves P fn a5.tmps _ a5.defers _ w5
      rw [hnd5]
      exact ADefer.leaves n3 n2r hcap5 rfl (fun E' H' w' q1 q2 q3 => fin E' r5 H' a5 w' (l2.ext.trans (n2e.trans q1)) q2 (n2q.mono q1.le) q3)
    · show Leaves P fn a5.tmps _ a5.defers _ w5
      rw [hnd5]
      exact ADefer.leaves n3 n2r hcap5 rfl (fun E' H' w' q1 q2 q3 => fin E' r5 H' a5 w' (l2.ext.trans (n2e.trans q1)) q2 (n2q.mono q1.le) q3)
    · obtain ⟨v, rfl, hvr⟩ := n1
      show Leaves P fn a5.tmps _ a5.defers _ w5
      rw [hnd5]
      exact ADefer.leaves n3 n2r hcap5 ⟨v, rfl, hvr⟩ (fun E' H' w' q1 q2 q3 => fin E' r5 H' a5 w' (l2.ext.trans (n2e.trans q1)) q2 (n2q.mono q1.le) q3)
  · show Leaves P fn a2.tmps _ a2.defers _ w2
    rw [show a2.defers = [] from l2.nd]
    exact fin E2 r2 H2 a2 w2 l2.ext l2.rel l2.rr l3
theorem ADefer.enter (hT : TOK P T) {f id d1 d2 : Nat} {fn : Func} {B : Code} {t1 t2 : Nat} {p1 p2 : String} {af1 af2 : Array Edge} {caps : List AV} {pv : Option AV} {H : Heap} {K : Heap → Prop} (hf : P.funcs[f]? = some fn)
    (hb : fn.body = some ((Code.region id #[{ dst := some d1, op := .call { callee := .builtin .recover, args := #[], argTypes := #[] }, type := t1, pos := p1, after := af1, guard := none }, { dst := some d2, op := .assign (.tmp d1), type := t2, pos := p2, after := af2, guard := none }] false).seq B))
    (hn : (fn.name == "runtime.NumGoroutine") = false) (hl : Nat.ble caps.length fn.ntmps = true) (hd1 : Nat.blt d1 fn.ntmps = true) (hd2 : Nat.blt d2 fn.ntmps = true)
    (h : AW P T false H.length fn.ntmps B ((d2, pv.getD .nili) :: (d1, pv.getD .nili) :: argR 0 caps) H fun e r H1 => match e with
      | .normal => aresults T r H1 fn.results.toList fun _ => K H1
      | .ret => aresults T r H1 fn.results.toList fun _ => K H1
      | _ => False) : ADefer P f caps pv H K := by
  refine ⟨⟨fn, hf, hn, by rw [hb]; rfl⟩, fun E w vs u hR hv hu => ?_⟩
  replace hl := Nat.le_of_ble_eq_true hl
  have hdl1 : d1 < fn.ntmps := Nat.lt_of_succ_le (Nat.le_of_ble_eq_true hd1)
  have hdl2 : d2 < fn.ntmps := Nat.lt_of_succ_le (Nat.le_of_ble_eq_true hd2)
  have hvl := hv.length
  have hvs : vs.size = caps.length := by simpa using hvl
  have hrr : RR fn.ntmps E (argR 0 caps) { tmps := vs ++ Array.replicate (fn.ntmps - vs.size) undef, defers := [] } := by
    refine ⟨by simp; omega, fun t v ht => ?_⟩
    obtain ⟨_, h2⟩ := argR_get ht
    simp only [Nat.sub_zero] at h2
    have htl := (List.getElem?_eq_some_iff.mp h2).1
    obtain ⟨u, h3, h4⟩ := hv.get h2
    refine ⟨by omega, ?_⟩
    have h5 : vs[t]? = some u := by simpa using h3
    have h6 : (vs ++ Array.replicate (fn.ntmps - vs.size) undef).getD t undef = u := by
      rw [Array.getD_eq_getD_getElem?, Array.getElem?_append_left (by omega), h5]; rfl
    show VR E v ((vs ++ Array.replicate (fn.ntmps - vs.size) undef).getD t undef)
    rw [h6]; exact h4
  refine callsD_of_wpS hf hb fun c₀ cs hc => ?_
  refine wpS_seq (wpS_region ?_)
  generalize hA : ({ tmps := vs ++ Array.replicate (fn.ntmps - vs.size) undef, defers := [] } : Act) = A at hrr ⊢
  have hAd : A.defers = [] := by rw [← hA]
  -- what is recovered
  obtain ⟨v, u', hvr, hrec, hset⟩ : ∃ (v : Value) (u' : FrameMode), VR E (pv.getD .nili) v ∧
      (recoverD (c₀ :: cs) = some (v, { c₀ with mode := u' } :: cs) ∨ (recoverD (c₀ :: cs) = none ∧ v = .nilIface ∧ { c₀ with mode := u' } = c₀)) ∧ settle u' = .returning := by
    cases pv with
    | none =>
      replace hu : u = .returning := hu
      subst hu
      refine ⟨.nilIface, .returning, rfl, .inr ⟨by simp [recoverD, hc], rfl, by rw [← hc]⟩, rfl⟩
    | some x =>
      obtain ⟨v, rfl, hvx⟩ := hu
      refine ⟨v, .panicking [{ v, recovered := true }], hvx, .inl (by simp [recoverD, hc]), by simp [settle]⟩
  have fin : ((wpOpsS P #[{ dst := some d1, op := Op.call { callee := .builtin .recover, args := #[], argTypes := #[] }, type := t1, pos := p1, after := af1, guard := none }, { dst := some d2, op := .assign (.tmp d1), type := t2, pos := p2, after := af2, guard := none }]
      (Exit.thenS (B.wpS P (bodyPostS P fn c₀ cs fun e u' w' => (∃ v, e = .returned v) ∧ settle u' = .returning ∧ ∃ E' H', Ext E w E' w' ∧ Rel E' H' w' ∧ K H'))
        (bodyPostS P fn c₀ cs fun e u' w' => (∃ v, e = .returned v) ∧ settle u' = .returning ∧ ∃ E' H', Ext E w E' w' ∧ Rel E' H' w' ∧ K H')) [1] (A.put (some d1) v) ({ c₀ with mode := u' } :: cs) w)) := by
    have hr1 : RR fn.ntmps E ((d1, pv.getD .nili) :: argR 0 caps) (A.put (some d1) v) := hrr.put hdl1 hvr
    have hr2 : RR fn.ntmps E ((d2, pv.getD .nili) :: (d1, pv.getD .nili) :: argR 0 caps) ((A.put (some d1) v).put (some d2) v) := hr1.put hdl2 hvr
    have hget : (A.put (some d1) v).tmps.getD d1 undef = v := by
      simp [Act.put, hrr.size, hdl1]
    have hev : (A.put (some d1) v).eval (.tmp d1) = v := hget
    have hx : (execOp (A.put (some d1) v).eval { dst := some d2, op := .assign (.tmp d1), type := t2, pos := p2, after := af2, guard := none }).run P w = .ok (.value v) w := by
      simp [execOp, hev]
    simp only [wpOpsS, List.getElem?_toArray, List.getElem?_cons_succ, List.getElem?_cons_zero]
    rw [if_pos (by simp [Region.wanted]), hx]
    show B.wpS P _ ((A.put (some d1) v).put (some d2) v) ({ c₀ with mode := u' } :: cs) w
    refine wpS_of_wp ?_
    have hbr : BR H.length fn.ntmps E w E ((d2, pv.getD .nili) :: (d1, pv.getD .nili) :: argR 0 caps) H ((A.put (some d1) v).put (some d2) v) w := ⟨hR.len, .refl E w, hR, hr2, hAd⟩
    refine wp_mono (AW_sound hT B _ _ _ h E w E _ w hbr) fun e a5 w5 ⟨x, E5, r5, H5, n1, n2, n3⟩ => ?_
    have out : (aresults T r5 H5 fn.results.toList fun _ => K H5) → a5.defers = [] ∧ ∃ u'_1, ({ c₀ with mode := u' } :: cs : List Frame) = { c₀ with mode := u'_1 } :: cs ∧ ∃ v, (results fn a5.tmps).run P w5 = .ok v w5 ∧ (∃ v', Ending.returned v = .returned v') ∧ settle u'_1 = .returning ∧ ∃ E' H', Ext E w E' w5 ∧ Rel E' H' w5 ∧ K H' := by
      intro n3
      obtain ⟨us, ws, g1, g2, g3, g4⟩ := aresults_sound hT n2 _ _ n3
      have hrun : ∀ g : ResultVar → Sem Value, (fn.results.toList.mapM g).run P w5 = .ok ws w5 → (fn.results.mapM g).run P w5 = .ok ws.toArray w5 := by
        intro g hg
        rw [Array.mapM_eq_mapM_toList, Sem.run_map, hg]; rfl
      have g5 := hrun _ g4
      refine ⟨n2.nd, u', rfl, (if h : ws.toArray.size = 1 then ws.toArray[0] else .tuple ws.toArray), ?_, ⟨_, rfl⟩, hset, E5, H5, n2.ext, n2.rel, g1⟩
      simp only [results_eq, Sem.run_bind, g5, Result.andThen_ok]
      rfl
    cases x <;> cases e <;> first | exact n1.elim | exact n3.elim | skip
    · exact out n3
    · exact out n3
  show wpOpsS P _ _ (List.range 2) A (c₀ :: cs) w
  rw [show List.range 2 = [0, 1] from rfl]
  have hx0 : (execOp A.eval { dst := some d1, op := Op.call { callee := .builtin .recover, args := #[], argTypes := #[] }, type := t1, pos := p1, after := af1, guard := none }).run P w = .ok .recover w := by
    simp [execOp, resolve, invoke, builtin]
  rw [wpOpsS]
  simp only [List.getElem?_toArray, List.getElem?_cons_zero]
  rw [if_pos (by simp [Region.wanted]), hx0]
  rcases hrec with hrec | ⟨hrec, hvn, hc0⟩
  · simp only [hrec]
    exact fin
  · simp only [hrec]
    rw [hvn, hc0] at fin
    exact fin
/-- A loop that is left by one exit alone: what holds there. -/
theorem ALoop.post [Defs] {n0 nt i : Nat} {c : Code} {r : Regs} {H : Heap} {Q : AX → Regs → Heap → Prop} (R : Regs → Heap → Prop) (h : ALoop P n0 nt c r H fun x r H => x = .exit i ∧ R r H)
    (hn : ∀ r H, R r H → Gh n0 nt (fun r H => Q (.exit i) r H) r H) : ALoop P n0 nt c r H Q := by
  refine ⟨fun E0 w0 E a w hb => wp_mono (h.out E0 w0 E a w hb) fun e a' w' ⟨x, E', r', H', k1, k2, k3⟩ => ?_⟩
  obtain ⟨rfl, k3⟩ := k3
  obtain ⟨E2, r2, H2, l1, l2⟩ := hn r' H' k3 E0 w0 E' a' w' k2
  exact ⟨.exit i, E2, r2, H2, (by cases e <;> first | exact k1.elim | exact k1), l1, l2⟩
end
end Go.AK
