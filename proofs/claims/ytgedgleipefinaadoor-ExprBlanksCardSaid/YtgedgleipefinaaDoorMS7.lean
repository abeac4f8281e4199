/- Texts SEBindsW, SEBindsT, SEBlanks, SEBlanksT: an evaluator of the model's code, proved sound, and what the program's functions do, for all inputs. -/
import Derived.Test.YtgedgleipefinaaDoorMS6
set_option linter.unusedVariables false
set_option linter.unusedSimpArgs false
set_option linter.unusedSectionVars false
namespace Go.AK
open Go Go.RowKit Go.Proofs
set_option linter.unusedVariables false
set_option maxRecDepth 100000
def bR (i : Nat) (t : Str) : Regs := [(9, .i .i64 i), (3, .p (some (0, 0))), (4, .p (some (1, 0))), (5, .p (some (2, 0))), (7, .p (some (3, 0))), (6, .b false), (8, .s (sb t))]
def bH (l0 l1 l2 : List Nod) (a0 a1 n0 n1 n2 : Bool) (c : List AV) : Heap := [.c [rowAV l0, rowAV l1, rowAV l2], .c [.b a0, .b a1], .c [.b n0, .b n1, .b n2], .c c]
structure OpOK (l : List Nod) (x : Ex) (t : Str) : Prop where
  few : fewB l = true
  gt : GT x
  num : x.okN
  dep : x.depth ≤ 60
  txt : t = x.txt 0
  len : t.length ≤ 1000
structure OpS (l : List Nod) (x : Ex) (t : Str) (e : Int) (d : Nat) : Prop where
  few : ACall Tryd.prog 14 [rowAV l] [] fun R H => R = .ret (.b (fewB l)) ∧ H = []
  tree : fewB l = true → ACall Tryd.prog 15 [rowAV l] [] fun R H => R = .ret x.av ∧ H = []
  text : fewB l = true → ACall Tryd.prog 17 [x.av] [] fun R H => R = .ret (.tup [.s (sb t), .i .i64 e]) ∧ H = []
  dep : fewB l = true → ACall Tryd.prog 19 [x.av] [] fun R H => R = .ret (.i .i64 d) ∧ H = []
  ok : fewB l = true → e = 0 → GT x ∧ x.okN ∧ t = x.txt 0 ∧ d = x.depth
  bad : fewB l = true → e ≠ 0 → t = []
def accB (a0 n0 n1 : Bool) (t0 t1 : Str) : Str := txtB n0 t0 ++ (sepB a0 ++ txtB n1 t1)
theorem txtB_len (b : Bool) (t : Str) : (txtB b t).length ≤ t.length + 6 := by
  cases b
  · simp only [txtB, List.length_append, List.length_cons, List.length_nil]; show 0 + _ ≤ _; omega
  · simp only [txtB, List.length_append, List.length_cons, List.length_nil]; show 4 + _ ≤ _; omega
theorem accB_len (a0 n0 n1 : Bool) (t0 t1 : Str) : (accB a0 n0 n1 t0 t1).length ≤ t0.length + t1.length + 20 := by
  have := txtB_len n0 t0; have := txtB_len n1 t1
  have hs : (sepB a0).length ≤ 5 := by cases a0 <;> decide
  simp only [accB, List.length_append]; omega
theorem sub_row (φ : Nat → Sb) (l : List Nod) : sub φ (rowAV l) = rowAV l := by
  unfold rowAV; rw [sub, subs_nods]
theorem subs_row (φ : Nat → Sb) (l : List Nod) : subs φ [rowAV l] = [rowAV l] := by rw [subs, sub_row]; rfl
theorem subs_row3 (φ : Nat → Sb) (l m n : List Nod) : subs φ [rowAV l, rowAV m, rowAV n] = [rowAV l, rowAV m, rowAV n] := by rw [subs, subs, subs, sub_row, sub_row, sub_row]; rfl
theorem subs_bools2 (φ : Nat → Sb) (a b : Bool) : subs φ [AV.b a, AV.b b] = [AV.b a, AV.b b] := rfl
theorem subs_bools3 (φ : Nat → Sb) (a b c : Bool) : subs φ [AV.b a, AV.b b, AV.b c] = [AV.b a, AV.b b, AV.b c] := rfl
theorem subs_av (φ : Nat → Sb) (x : Ex) : subs φ [x.av] = [x.av] := by rw [subs, sub_av]; rfl
theorem GT.nd {x : Ex} (h : GT x) : ∃ k w o n l r, x = .nd k w o n l r := by
  cases x with
  | nil => cases h
  | nd k w o n l r => exact ⟨k, w, o, n, l, r, rfl⟩
theorem blk4 {a a' b b' c c' d d' : List AV} (h1 : a = a') (h2 : b = b') (h3 : c = c') (h4 : d = d') : [Blk.c a, Blk.c b, Blk.c c, Blk.c d] = [Blk.c a', Blk.c b', Blk.c c', Blk.c d'] := by rw [h1, h2, h3, h4]
theorem lit_size (a : Array UInt8) : ByteArray.size ⟨a⟩ = a.size := rfl
/-- A call of a function that looks at no memory. -/
theorem callE {f : Nat} {args : List AV} {H : Heap} {K : ARes → Heap → Prop} {v : AV} (ha : ∀ φ, subs φ args = args) (h : ACall Tryd.prog f args [] fun R H => R = .ret v ∧ H = []) (hv : ∀ φ, sub φ v = v) (hk : K (.ret v) H) : ACall Tryd.prog f args H K :=
  ACall.frameH [] [] rfl (ha _) rfl h (by
    rintro r0 H2 ⟨rfl, rfl⟩
    exact ⟨.inl rfl, H, by simp [backH], by show K (.ret (sub _ v)) H; rw [hv]; exact hk⟩)
theorem exprBinds_spec (l0 l1 l2 : List Nod) (a0 a1 n0 n1 n2 : Bool) (x0 x1 x2 : Ex) (t0 t1 t2 : Str) (e0 e1 e2 : Int) (d0 d1 d2 : Nat)
    (s0 : OpS l0 x0 t0 e0 d0) (s1 : OpS l1 x1 t1 e1 d1) (s2 : OpS l2 x2 t2 e2 d2) :
    ACall Tryd.prog 7 [.agg [rowAV l0, rowAV l1, rowAV l2], .agg [.b a0, .b a1], .agg [.b n0, .b n1, .b n2]] [] fun R H => R = .ret (.b true) ∧ H = [] := by
  have aw := awake_spec
  refine ACall.gh ?_
  refine ACall.enter tok false Tryd.func7 rfl rfl rfl (AW_sound (ip := false) tok _ _ _ _ ?_)
  conv => whnf
  refine ALoop.ind (ip := false) tok (fun m r H => (m = 3 ∧ r = bR 0 [] ∧ H = bH l0 l1 l2 a0 a1 n0 n1 n2 [.p none, .p none, .p none]) ∨
    (m = 2 ∧ OpOK l0 x0 t0 ∧ r = bR 1 (txtB n0 t0) ∧ H = bH l0 l1 l2 a0 a1 n0 n1 n2 [(notX n0 x0).av, .p none, .p none]) ∨
    (m = 1 ∧ OpOK l0 x0 t0 ∧ OpOK l1 x1 t1 ∧ r = bR 2 (accB a0 n0 n1 t0 t1) ∧ H = bH l0 l1 l2 a0 a1 n0 n1 n2 [(notX n0 x0).av, (notX n1 x1).av, .p none]) ∨
    (m = 0 ∧ OpOK l0 x0 t0 ∧ OpOK l1 x1 t1 ∧ OpOK l2 x2 t2 ∧ r = bR 3 (accB a0 n0 n1 t0 t1 ++ (sepB a1 ++ txtB n2 t2)) ∧ H = bH l0 l1 l2 a0 a1 n0 n1 n2 [(notX n0 x0).av, (notX n1 x1).av, (notX n2 x2).av])) 3 ?_ ?_
  · exact Gh.regs [9, 3, 4, 5, 7, 6, 8] (Gh.of (.inl ⟨rfl, rfl, rfl⟩))
  rintro m r H (⟨rfl, rfl, rfl⟩ | ⟨rfl, o0, rfl, rfl⟩ | ⟨rfl, o0, o1, rfl, rfl⟩ | ⟨rfl, o0, o1, o2, rfl, rfl⟩)
  ·
    have fw := s0.few
    cases hf : fewB l0 with
    | false =>
      rw [hf] at fw
      conv => whnf
      repeat (first | (refine And.intro ⟨by decide, by decide⟩ ?_; conv => whnf) | (refine And.intro (by decide) ?_; conv => whnf) | (refine And.intro (Nat.le_of_ble_eq_true rfl) ?_; conv => whnf) | (refine And.intro (by simp only [ByteArray.size_append, sb_size, lit_size, List.size_toArray, List.length_cons, List.length_nil]; omega) ?_; conv => whnf))
      refine callE (subs_row · l0) fw (fun _ => rfl) ?_
      conv => whnf
      repeat (first | (refine And.intro ⟨by decide, by decide⟩ ?_; conv => whnf) | (refine And.intro (by decide) ?_; conv => whnf) | (refine And.intro (Nat.le_of_ble_eq_true rfl) ?_; conv => whnf) | (refine And.intro (by simp only [ByteArray.size_append, sb_size, lit_size, List.size_toArray, List.length_cons, List.length_nil]; omega) ?_; conv => whnf))
      refine callE (fun _ => rfl) aw (fun _ => rfl) ?_
      conv => whnf
      repeat (first | (refine And.intro ⟨by decide, by decide⟩ ?_; conv => whnf) | (refine And.intro (by decide) ?_; conv => whnf) | (refine And.intro (Nat.le_of_ble_eq_true rfl) ?_; conv => whnf) | (refine And.intro (by simp only [ByteArray.size_append, sb_size, lit_size, List.size_toArray, List.length_cons, List.length_nil]; omega) ?_; conv => whnf))
      exact GhR.sel [] rfl (GhR.of ⟨rfl, rfl⟩)
    | true =>
      rw [hf] at fw
      have tr := s0.tree hf
      have tx := s0.text hf
      have dp := s0.dep hf
      by_cases he : e0 = 0
      · obtain ⟨g1, g2, g3, g4⟩ := s0.ok hf he
        rw [he] at tx
        obtain ⟨k, w, o, m, l, r, hx⟩ := g1.nd
        by_cases hl : t0.length ≤ 1000
        · have b1 : decide (((sb t0).size : Int) > 1000) = false := decide_eq_false (by rw [sb_size]; omega)
          by_cases hd : d0 ≤ 60
          · have b2 : decide ((d0 : Int) > 60) = false := decide_eq_false (by omega)
            have oo : OpOK l0 x0 t0 := ⟨hf, g1, g2, by omega, g3, hl⟩
            subst hx
            cases n0 with
            | true =>
              conv => whnf
              repeat (first | (refine acond_f (b1) ?_; conv => whnf) | (refine acond_f (b2) ?_; conv => whnf) | (refine And.intro ⟨by decide, by decide⟩ ?_; conv => whnf) | (refine And.intro (by decide) ?_; conv => whnf) | (refine And.intro (Nat.le_of_ble_eq_true rfl) ?_; conv => whnf) | (refine And.intro (by simp only [ByteArray.size_append, sb_size, lit_size, List.size_toArray, List.length_cons, List.length_nil]; omega) ?_; conv => whnf))
              refine callE (subs_row · l0) fw (fun _ => rfl) ?_
              conv => whnf
              repeat (first | (refine acond_f (b1) ?_; conv => whnf) | (refine acond_f (b2) ?_; conv => whnf) | (refine And.intro ⟨by decide, by decide⟩ ?_; conv => whnf) | (refine And.intro (by decide) ?_; conv => whnf) | (refine And.intro (Nat.le_of_ble_eq_true rfl) ?_; conv => whnf) | (refine And.intro (by simp only [ByteArray.size_append, sb_size, lit_size, List.size_toArray, List.length_cons, List.length_nil]; omega) ?_; conv => whnf))
              refine callE (subs_row · l0) tr (sub_av · _) ?_
              conv => whnf
              repeat (first | (refine acond_f (b1) ?_; conv => whnf) | (refine acond_f (b2) ?_; conv => whnf) | (refine And.intro ⟨by decide, by decide⟩ ?_; conv => whnf) | (refine And.intro (by decide) ?_; conv => whnf) | (refine And.intro (Nat.le_of_ble_eq_true rfl) ?_; conv => whnf) | (refine And.intro (by simp only [ByteArray.size_append, sb_size, lit_size, List.size_toArray, List.length_cons, List.length_nil]; omega) ?_; conv => whnf))
              refine callE (subs_av · _) tx (fun _ => rfl) ?_
              conv => whnf
              repeat (first | (refine acond_f (b1) ?_; conv => whnf) | (refine acond_f (b2) ?_; conv => whnf) | (refine And.intro ⟨by decide, by decide⟩ ?_; conv => whnf) | (refine And.intro (by decide) ?_; conv => whnf) | (refine And.intro (Nat.le_of_ble_eq_true rfl) ?_; conv => whnf) | (refine And.intro (by simp only [ByteArray.size_append, sb_size, lit_size, List.size_toArray, List.length_cons, List.length_nil]; omega) ?_; conv => whnf))
              refine callE (subs_av · _) dp (fun _ => rfl) ?_
              conv => whnf
              repeat (first | (refine acond_f (b1) ?_; conv => whnf) | (refine acond_f (b2) ?_; conv => whnf) | (refine And.intro ⟨by decide, by decide⟩ ?_; conv => whnf) | (refine And.intro (by decide) ?_; conv => whnf) | (refine And.intro (Nat.le_of_ble_eq_true rfl) ?_; conv => whnf) | (refine And.intro (by simp only [ByteArray.size_append, sb_size, lit_size, List.size_toArray, List.length_cons, List.length_nil]; omega) ?_; conv => whnf))
              refine Gh.regs [9, 3, 4, 5, 7, 6, 8] (Gh.frz 4 rfl (Gh.sel [0, 1, 2, 3] rfl (Gh.of ⟨2, by omega, .inr (.inl ⟨rfl, oo, ?_, ?_⟩)⟩)))
              · show [_, _, _, _, _, _, (8, AV.s (sb [] ++ sb wNotS ++ sb [40] ++ sb t0 ++ sb [41]))] = _
                simp only [sb_append]
                simp only [accB, txtB, sepB, List.append_assoc, List.nil_append, if_true, Bool.false_eq_true, if_false]; rfl
              · refine blk4 ?_ rfl rfl ?_
                · show subs _ (subs _ [rowAV l0, rowAV l1, rowAV l2]) = _; rw [subs_row3, subs_row3]
                · show subs _ [AV.rp [.i .i64 1, .s (sb []), .s (sb []), .i .i64 0, Ex.av (.nd k w o m l r), .p none] 0, .p none, .p none] = _; simp only [subs, sub, sub_av]; rfl
            | false =>
              conv => whnf
              repeat (first | (refine acond_f (b1) ?_; conv => whnf) | (refine acond_f (b2) ?_; conv => whnf) | (refine And.intro ⟨by decide, by decide⟩ ?_; conv => whnf) | (refine And.intro (by decide) ?_; conv => whnf) | (refine And.intro (Nat.le_of_ble_eq_true rfl) ?_; conv => whnf) | (refine And.intro (by simp only [ByteArray.size_append, sb_size, lit_size, List.size_toArray, List.length_cons, List.length_nil]; omega) ?_; conv => whnf))
              refine callE (subs_row · l0) fw (fun _ => rfl) ?_
              conv => whnf
              repeat (first | (refine acond_f (b1) ?_; conv => whnf) | (refine acond_f (b2) ?_; conv => whnf) | (refine And.intro ⟨by decide, by decide⟩ ?_; conv => whnf) | (refine And.intro (by decide) ?_; conv => whnf) | (refine And.intro (Nat.le_of_ble_eq_true rfl) ?_; conv => whnf) | (refine And.intro (by simp only [ByteArray.size_append, sb_size, lit_size, List.size_toArray, List.length_cons, List.length_nil]; omega) ?_; conv => whnf))
              refine callE (subs_row · l0) tr (sub_av · _) ?_
              conv => whnf
              repeat (first | (refine acond_f (b1) ?_; conv => whnf) | (refine acond_f (b2) ?_; conv => whnf) | (refine And.intro ⟨by decide, by decide⟩ ?_; conv => whnf) | (refine And.intro (by decide) ?_; conv => whnf) | (refine And.intro (Nat.le_of_ble_eq_true rfl) ?_; conv => whnf) | (refine And.intro (by simp only [ByteArray.size_append, sb_size, lit_size, List.size_toArray, List.length_cons, List.length_nil]; omega) ?_; conv => whnf))
              refine callE (subs_av · _) tx (fun _ => rfl) ?_
              conv => whnf
              repeat (first | (refine acond_f (b1) ?_; conv => whnf) | (refine acond_f (b2) ?_; conv => whnf) | (refine And.intro ⟨by decide, by decide⟩ ?_; conv => whnf) | (refine And.intro (by decide) ?_; conv => whnf) | (refine And.intro (Nat.le_of_ble_eq_true rfl) ?_; conv => whnf) | (refine And.intro (by simp only [ByteArray.size_append, sb_size, lit_size, List.size_toArray, List.length_cons, List.length_nil]; omega) ?_; conv => whnf))
              refine callE (subs_av · _) dp (fun _ => rfl) ?_
              conv => whnf
              repeat (first | (refine acond_f (b1) ?_; conv => whnf) | (refine acond_f (b2) ?_; conv => whnf) | (refine And.intro ⟨by decide, by decide⟩ ?_; conv => whnf) | (refine And.intro (by decide) ?_; conv => whnf) | (refine And.intro (Nat.le_of_ble_eq_true rfl) ?_; conv => whnf) | (refine And.intro (by simp only [ByteArray.size_append, sb_size, lit_size, List.size_toArray, List.length_cons, List.length_nil]; omega) ?_; conv => whnf))
              refine Gh.regs [9, 3, 4, 5, 7, 6, 8] (Gh.sel [0, 1, 2, 3] rfl (Gh.of ⟨2, by omega, .inr (.inl ⟨rfl, oo, ?_, ?_⟩)⟩))
              · show [_, _, _, _, _, _, (8, AV.s (sb [] ++ sb [40] ++ sb t0 ++ sb [41]))] = _
                simp only [sb_append]
                simp only [accB, txtB, sepB, List.append_assoc, List.nil_append, if_true, Bool.false_eq_true, if_false]; rfl
              · refine blk4 ?_ rfl rfl ?_
                · show subs _ [rowAV l0, rowAV l1, rowAV l2] = _; rw [subs_row3]
                · show subs _ [Ex.av (.nd k w o m l r), .p none, .p none] = _; simp only [subs, sub, sub_av]; rfl
          · have b2 : decide ((d0 : Int) > 60) = true := decide_eq_true (by omega)
            subst hx
            conv => whnf
            repeat (first | (refine acond_f (b1) ?_; conv => whnf) | (refine acond_t (b2) ?_; conv => whnf) | (refine And.intro ⟨by decide, by decide⟩ ?_; conv => whnf) | (refine And.intro (by decide) ?_; conv => whnf) | (refine And.intro (Nat.le_of_ble_eq_true rfl) ?_; conv => whnf) | (refine And.intro (by simp only [ByteArray.size_append, sb_size, lit_size, List.size_toArray, List.length_cons, List.length_nil]; omega) ?_; conv => whnf))
            refine callE (subs_row · l0) fw (fun _ => rfl) ?_
            conv => whnf
            repeat (first | (refine acond_f (b1) ?_; conv => whnf) | (refine acond_t (b2) ?_; conv => whnf) | (refine And.intro ⟨by decide, by decide⟩ ?_; conv => whnf) | (refine And.intro (by decide) ?_; conv => whnf) | (refine And.intro (Nat.le_of_ble_eq_true rfl) ?_; conv => whnf) | (refine And.intro (by simp only [ByteArray.size_append, sb_size, lit_size, List.size_toArray, List.length_cons, List.length_nil]; omega) ?_; conv => whnf))
            refine callE (subs_row · l0) tr (sub_av · _) ?_
            conv => whnf
            repeat (first | (refine acond_f (b1) ?_; conv => whnf) | (refine acond_t (b2) ?_; conv => whnf) | (refine And.intro ⟨by decide, by decide⟩ ?_; conv => whnf) | (refine And.intro (by decide) ?_; conv => whnf) | (refine And.intro (Nat.le_of_ble_eq_true rfl) ?_; conv => whnf) | (refine And.intro (by simp only [ByteArray.size_append, sb_size, lit_size, List.size_toArray, List.length_cons, List.length_nil]; omega) ?_; conv => whnf))
            refine callE (subs_av · _) tx (fun _ => rfl) ?_
            conv => whnf
            repeat (first | (refine acond_f (b1) ?_; conv => whnf) | (refine acond_t (b2) ?_; conv => whnf) | (refine And.intro ⟨by decide, by decide⟩ ?_; conv => whnf) | (refine And.intro (by decide) ?_; conv => whnf) | (refine And.intro (Nat.le_of_ble_eq_true rfl) ?_; conv => whnf) | (refine And.intro (by simp only [ByteArray.size_append, sb_size, lit_size, List.size_toArray, List.length_cons, List.length_nil]; omega) ?_; conv => whnf))
            refine callE (subs_av · _) dp (fun _ => rfl) ?_
            conv => whnf
            repeat (first | (refine acond_f (b1) ?_; conv => whnf) | (refine acond_t (b2) ?_; conv => whnf) | (refine And.intro ⟨by decide, by decide⟩ ?_; conv => whnf) | (refine And.intro (by decide) ?_; conv => whnf) | (refine And.intro (Nat.le_of_ble_eq_true rfl) ?_; conv => whnf) | (refine And.intro (by simp only [ByteArray.size_append, sb_size, lit_size, List.size_toArray, List.length_cons, List.length_nil]; omega) ?_; conv => whnf))
            refine callE (fun _ => rfl) aw (fun _ => rfl) ?_
            conv => whnf
            repeat (first | (refine acond_f (b1) ?_; conv => whnf) | (refine acond_t (b2) ?_; conv => whnf) | (refine And.intro ⟨by decide, by decide⟩ ?_; conv => whnf) | (refine And.intro (by decide) ?_; conv => whnf) | (refine And.intro (Nat.le_of_ble_eq_true rfl) ?_; conv => whnf) | (refine And.intro (by simp only [ByteArray.size_append, sb_size, lit_size, List.size_toArray, List.length_cons, List.length_nil]; omega) ?_; conv => whnf))
            exact GhR.sel [] rfl (GhR.of ⟨rfl, rfl⟩)
        · have b1 : decide (((sb t0).size : Int) > 1000) = true := decide_eq_true (by rw [sb_size]; omega)
          subst hx
          conv => whnf
          repeat (first | (refine acond_t (b1) ?_; conv => whnf) | (refine And.intro ⟨by decide, by decide⟩ ?_; conv => whnf) | (refine And.intro (by decide) ?_; conv => whnf) | (refine And.intro (Nat.le_of_ble_eq_true rfl) ?_; conv => whnf) | (refine And.intro (by simp only [ByteArray.size_append, sb_size, lit_size, List.size_toArray, List.length_cons, List.length_nil]; omega) ?_; conv => whnf))
          refine callE (subs_row · l0) fw (fun _ => rfl) ?_
          conv => whnf
          repeat (first | (refine acond_t (b1) ?_; conv => whnf) | (refine And.intro ⟨by decide, by decide⟩ ?_; conv => whnf) | (refine And.intro (by decide) ?_; conv => whnf) | (refine And.intro (Nat.le_of_ble_eq_true rfl) ?_; conv => whnf) | (refine And.intro (by simp only [ByteArray.size_append, sb_size, lit_size, List.size_toArray, List.length_cons, List.length_nil]; omega) ?_; conv => whnf))
          refine callE (subs_row · l0) tr (sub_av · _) ?_
          conv => whnf
          repeat (first | (refine acond_t (b1) ?_; conv => whnf) | (refine And.intro ⟨by decide, by decide⟩ ?_; conv => whnf) | (refine And.intro (by decide) ?_; conv => whnf) | (refine And.intro (Nat.le_of_ble_eq_true rfl) ?_; conv => whnf) | (refine And.intro (by simp only [ByteArray.size_append, sb_size, lit_size, List.size_toArray, List.length_cons, List.length_nil]; omega) ?_; conv => whnf))
          refine callE (subs_av · _) tx (fun _ => rfl) ?_
          conv => whnf
          repeat (first | (refine acond_t (b1) ?_; conv => whnf) | (refine And.intro ⟨by decide, by decide⟩ ?_; conv => whnf) | (refine And.intro (by decide) ?_; conv => whnf) | (refine And.intro (Nat.le_of_ble_eq_true rfl) ?_; conv => whnf) | (refine And.intro (by simp only [ByteArray.size_append, sb_size, lit_size, List.size_toArray, List.length_cons, List.length_nil]; omega) ?_; conv => whnf))
          refine callE (fun _ => rfl) aw (fun _ => rfl) ?_
          conv => whnf
          repeat (first | (refine acond_t (b1) ?_; conv => whnf) | (refine And.intro ⟨by decide, by decide⟩ ?_; conv => whnf) | (refine And.intro (by decide) ?_; conv => whnf) | (refine And.intro (Nat.le_of_ble_eq_true rfl) ?_; conv => whnf) | (refine And.intro (by simp only [ByteArray.size_append, sb_size, lit_size, List.size_toArray, List.length_cons, List.length_nil]; omega) ?_; conv => whnf))
          exact GhR.sel [] rfl (GhR.of ⟨rfl, rfl⟩)
      · have b1 : (e0 != 0) = true := by simpa using he
        have b2 : (e0 == 0) = false := by simpa using he
        rw [s0.bad hf he] at tx
        cases x0 with
        | nil =>
          conv => whnf
          repeat (first | (refine acond_t (b1) ?_; conv => whnf) | (refine acond_f (b2) ?_; conv => whnf) | (refine And.intro ⟨by decide, by decide⟩ ?_; conv => whnf) | (refine And.intro (by decide) ?_; conv => whnf) | (refine And.intro (Nat.le_of_ble_eq_true rfl) ?_; conv => whnf) | (refine And.intro (by simp only [ByteArray.size_append, sb_size, lit_size, List.size_toArray, List.length_cons, List.length_nil]; omega) ?_; conv => whnf))
          refine callE (subs_row · l0) fw (fun _ => rfl) ?_
          conv => whnf
          repeat (first | (refine acond_t (b1) ?_; conv => whnf) | (refine acond_f (b2) ?_; conv => whnf) | (refine And.intro ⟨by decide, by decide⟩ ?_; conv => whnf) | (refine And.intro (by decide) ?_; conv => whnf) | (refine And.intro (Nat.le_of_ble_eq_true rfl) ?_; conv => whnf) | (refine And.intro (by simp only [ByteArray.size_append, sb_size, lit_size, List.size_toArray, List.length_cons, List.length_nil]; omega) ?_; conv => whnf))
          refine callE (subs_row · l0) tr (sub_av · _) ?_
          conv => whnf
          repeat (first | (refine acond_t (b1) ?_; conv => whnf) | (refine acond_f (b2) ?_; conv => whnf) | (refine And.intro ⟨by decide, by decide⟩ ?_; conv => whnf) | (refine And.intro (by decide) ?_; conv => whnf) | (refine And.intro (Nat.le_of_ble_eq_true rfl) ?_; conv => whnf) | (refine And.intro (by simp only [ByteArray.size_append, sb_size, lit_size, List.size_toArray, List.length_cons, List.length_nil]; omega) ?_; conv => whnf))
          refine callE (subs_av · _) tx (fun _ => rfl) ?_
          conv => whnf
          repeat (first | (refine acond_t (b1) ?_; conv => whnf) | (refine acond_f (b2) ?_; conv => whnf) | (refine And.intro ⟨by decide, by decide⟩ ?_; conv => whnf) | (refine And.intro (by decide) ?_; conv => whnf) | (refine And.intro (Nat.le_of_ble_eq_true rfl) ?_; conv => whnf) | (refine And.intro (by simp only [ByteArray.size_append, sb_size, lit_size, List.size_toArray, List.length_cons, List.length_nil]; omega) ?_; conv => whnf))
          refine callE (fun _ => rfl) aw (fun _ => rfl) ?_
          conv => whnf
          repeat (first | (refine acond_t (b1) ?_; conv => whnf) | (refine acond_f (b2) ?_; conv => whnf) | (refine And.intro ⟨by decide, by decide⟩ ?_; conv => whnf) | (refine And.intro (by decide) ?_; conv => whnf) | (refine And.intro (Nat.le_of_ble_eq_true rfl) ?_; conv => whnf) | (refine And.intro (by simp only [ByteArray.size_append, sb_size, lit_size, List.size_toArray, List.length_cons, List.length_nil]; omega) ?_; conv => whnf))
          exact GhR.sel [] rfl (GhR.of ⟨rfl, rfl⟩)
        | nd k w o m l r =>
          conv => whnf
          repeat (first | (refine acond_t (b1) ?_; conv => whnf) | (refine acond_f (b2) ?_; conv => whnf) | (refine And.intro ⟨by decide, by decide⟩ ?_; conv => whnf) | (refine And.intro (by decide) ?_; conv => whnf) | (refine And.intro (Nat.le_of_ble_eq_true rfl) ?_; conv => whnf) | (refine And.intro (by simp only [ByteArray.size_append, sb_size, lit_size, List.size_toArray, List.length_cons, List.length_nil]; omega) ?_; conv => whnf))
          refine callE (subs_row · l0) fw (fun _ => rfl) ?_
          conv => whnf
          repeat (first | (refine acond_t (b1) ?_; conv => whnf) | (refine acond_f (b2) ?_; conv => whnf) | (refine And.intro ⟨by decide, by decide⟩ ?_; conv => whnf) | (refine And.intro (by decide) ?_; conv => whnf) | (refine And.intro (Nat.le_of_ble_eq_true rfl) ?_; conv => whnf) | (refine And.intro (by simp only [ByteArray.size_append, sb_size, lit_size, List.size_toArray, List.length_cons, List.length_nil]; omega) ?_; conv => whnf))
          refine callE (subs_row · l0) tr (sub_av · _) ?_
          conv => whnf
          repeat (first | (refine acond_t (b1) ?_; conv => whnf) | (refine acond_f (b2) ?_; conv => whnf) | (refine And.intro ⟨by decide, by decide⟩ ?_; conv => whnf) | (refine And.intro (by decide) ?_; conv => whnf) | (refine And.intro (Nat.le_of_ble_eq_true rfl) ?_; conv => whnf) | (refine And.intro (by simp only [ByteArray.size_append, sb_size, lit_size, List.size_toArray, List.length_cons, List.length_nil]; omega) ?_; conv => whnf))
          refine callE (subs_av · _) tx (fun _ => rfl) ?_
          conv => whnf
          repeat (first | (refine acond_t (b1) ?_; conv => whnf) | (refine acond_f (b2) ?_; conv => whnf) | (refine And.intro ⟨by decide, by decide⟩ ?_; conv => whnf) | (refine And.intro (by decide) ?_; conv => whnf) | (refine And.intro (Nat.le_of_ble_eq_true rfl) ?_; conv => whnf) | (refine And.intro (by simp only [ByteArray.size_append, sb_size, lit_size, List.size_toArray, List.length_cons, List.length_nil]; omega) ?_; conv => whnf))
          refine callE (fun _ => rfl) aw (fun _ => rfl) ?_
          conv => whnf
          repeat (first | (refine acond_t (b1) ?_; conv => whnf) | (refine acond_f (b2) ?_; conv => whnf) | (refine And.intro ⟨by decide, by decide⟩ ?_; conv => whnf) | (refine And.intro (by decide) ?_; conv => whnf) | (refine And.intro (Nat.le_of_ble_eq_true rfl) ?_; conv => whnf) | (refine And.intro (by simp only [ByteArray.size_append, sb_size, lit_size, List.size_toArray, List.length_cons, List.length_nil]; omega) ?_; conv => whnf))
          exact GhR.sel [] rfl (GhR.of ⟨rfl, rfl⟩)
  ·
    have fw := s1.few
    have q0 := txtB_len n0 t0
    have q0' := o0.len
    cases hf : fewB l1 with
    | false =>
      rw [hf] at fw
      conv => whnf
      repeat (first | (refine And.intro ⟨by decide, by decide⟩ ?_; conv => whnf) | (refine And.intro (by decide) ?_; conv => whnf) | (refine And.intro (Nat.le_of_ble_eq_true rfl) ?_; conv => whnf) | (refine And.intro (by simp only [ByteArray.size_append, sb_size, lit_size, List.size_toArray, List.length_cons, List.length_nil]; omega) ?_; conv => whnf))
      refine callE (subs_row · l1) fw (fun _ => rfl) ?_
      conv => whnf
      repeat (first | (refine And.intro ⟨by decide, by decide⟩ ?_; conv => whnf) | (refine And.intro (by decide) ?_; conv => whnf) | (refine And.intro (Nat.le_of_ble_eq_true rfl) ?_; conv => whnf) | (refine And.intro (by simp only [ByteArray.size_append, sb_size, lit_size, List.size_toArray, List.length_cons, List.length_nil]; omega) ?_; conv => whnf))
      refine callE (fun _ => rfl) aw (fun _ => rfl) ?_
      conv => whnf
      repeat (first | (refine And.intro ⟨by decide, by decide⟩ ?_; conv => whnf) | (refine And.intro (by decide) ?_; conv => whnf) | (refine And.intro (Nat.le_of_ble_eq_true rfl) ?_; conv => whnf) | (refine And.intro (by simp only [ByteArray.size_append, sb_size, lit_size, List.size_toArray, List.length_cons, List.length_nil]; omega) ?_; conv => whnf))
      exact GhR.sel [] rfl (GhR.of ⟨rfl, rfl⟩)
    | true =>
      rw [hf] at fw
      have tr := s1.tree hf
      have tx := s1.text hf
      have dp := s1.dep hf
      by_cases he : e1 = 0
      · obtain ⟨g1, g2, g3, g4⟩ := s1.ok hf he
        rw [he] at tx
        obtain ⟨k, w, o, m, l, r, hx⟩ := g1.nd
        by_cases hl : t1.length ≤ 1000
        · have b1 : decide (((sb t1).size : Int) > 1000) = false := decide_eq_false (by rw [sb_size]; omega)
          by_cases hd : d1 ≤ 60
          · have b2 : decide ((d1 : Int) > 60) = false := decide_eq_false (by omega)
            have oo : OpOK l1 x1 t1 := ⟨hf, g1, g2, by omega, g3, hl⟩
            subst hx
            cases a0 with
            | true =>
              cases n1 with
              | true =>
                conv => whnf
                repeat (first | (refine acond_f (b1) ?_; conv => whnf) | (refine acond_f (b2) ?_; conv => whnf) | (refine And.intro ⟨by decide, by decide⟩ ?_; conv => whnf) | (refine And.intro (by decide) ?_; conv => whnf) | (refine And.intro (Nat.le_of_ble_eq_true rfl) ?_; conv => whnf) | (refine And.intro (by simp only [ByteArray.size_append, sb_size, lit_size, List.size_toArray, List.length_cons, List.length_nil]; omega) ?_; conv => whnf))
                refine callE (subs_row · l1) fw (fun _ => rfl) ?_
                conv => whnf
                repeat (first | (refine acond_f (b1) ?_; conv => whnf) | (refine acond_f (b2) ?_; conv => whnf) | (refine And.intro ⟨by decide, by decide⟩ ?_; conv => whnf) | (refine And.intro (by decide) ?_; conv => whnf) | (refine And.intro (Nat.le_of_ble_eq_true rfl) ?_; conv => whnf) | (refine And.intro (by simp only [ByteArray.size_append, sb_size, lit_size, List.size_toArray, List.length_cons, List.length_nil]; omega) ?_; conv => whnf))
                refine callE (subs_row · l1) tr (sub_av · _) ?_
                conv => whnf
                repeat (first | (refine acond_f (b1) ?_; conv => whnf) | (refine acond_f (b2) ?_; conv => whnf) | (refine And.intro ⟨by decide, by decide⟩ ?_; conv => whnf) | (refine And.intro (by decide) ?_; conv => whnf) | (refine And.intro (Nat.le_of_ble_eq_true rfl) ?_; conv => whnf) | (refine And.intro (by simp only [ByteArray.size_append, sb_size, lit_size, List.size_toArray, List.length_cons, List.length_nil]; omega) ?_; conv => whnf))
                refine callE (subs_av · _) tx (fun _ => rfl) ?_
                conv => whnf
                repeat (first | (refine acond_f (b1) ?_; conv => whnf) | (refine acond_f (b2) ?_; conv => whnf) | (refine And.intro ⟨by decide, by decide⟩ ?_; conv => whnf) | (refine And.intro (by decide) ?_; conv => whnf) | (refine And.intro (Nat.le_of_ble_eq_true rfl) ?_; conv => whnf) | (refine And.intro (by simp only [ByteArray.size_append, sb_size, lit_size, List.size_toArray, List.length_cons, List.length_nil]; omega) ?_; conv => whnf))
                refine callE (subs_av · _) dp (fun _ => rfl) ?_
                conv => whnf
                repeat (first | (refine acond_f (b1) ?_; conv => whnf) | (refine acond_f (b2) ?_; conv => whnf) | (refine And.intro ⟨by decide, by decide⟩ ?_; conv => whnf) | (refine And.intro (by decide) ?_; conv => whnf) | (refine And.intro (Nat.le_of_ble_eq_true rfl) ?_; conv => whnf) | (refine And.intro (by simp only [ByteArray.size_append, sb_size, lit_size, List.size_toArray, List.length_cons, List.length_nil]; omega) ?_; conv => whnf))
                refine Gh.regs [9, 3, 4, 5, 7, 6, 8] (Gh.frz 4 rfl (Gh.sel [0, 1, 2, 3] rfl (Gh.of ⟨1, by omega, .inr (.inr (.inl ⟨rfl, o0, oo, ?_, ?_⟩))⟩)))
                · show [_, _, _, _, _, _, (8, AV.s (sb (txtB n0 t0) ++ sb wAndS ++ sb wNotS ++ sb [40] ++ sb t1 ++ sb [41]))] = _
                  simp only [sb_append]
                  simp only [accB, txtB, sepB, List.append_assoc, List.nil_append, if_true, Bool.false_eq_true, if_false]; rfl
                · refine blk4 ?_ rfl rfl ?_
                  · show subs _ (subs _ [rowAV l0, rowAV l1, rowAV l2]) = _; rw [subs_row3, subs_row3]
                  · show subs _ [sub _ ((notX n0 x0).av), AV.rp [.i .i64 1, .s (sb []), .s (sb []), .i .i64 0, Ex.av (.nd k w o m l r), .p none] 0, .p none] = _; simp only [subs, sub, sub_av]; rfl
              | false =>
                conv => whnf
                repeat (first | (refine acond_f (b1) ?_; conv => whnf) | (refine acond_f (b2) ?_; conv => whnf) | (refine And.intro ⟨by decide, by decide⟩ ?_; conv => whnf) | (refine And.intro (by decide) ?_; conv => whnf) | (refine And.intro (Nat.le_of_ble_eq_true rfl) ?_; conv => whnf) | (refine And.intro (by simp only [ByteArray.size_append, sb_size, lit_size, List.size_toArray, List.length_cons, List.length_nil]; omega) ?_; conv => whnf))
                refine callE (subs_row · l1) fw (fun _ => rfl) ?_
                conv => whnf
                repeat (first | (refine acond_f (b1) ?_; conv => whnf) | (refine acond_f (b2) ?_; conv => whnf) | (refine And.intro ⟨by decide, by decide⟩ ?_; conv => whnf) | (refine And.intro (by decide) ?_; conv => whnf) | (refine And.intro (Nat.le_of_ble_eq_true rfl) ?_; conv => whnf) | (refine And.intro (by simp only [ByteArray.size_append, sb_size, lit_size, List.size_toArray, List.length_cons, List.length_nil]; omega) ?_; conv => whnf))
                refine callE (subs_row · l1) tr (sub_av · _) ?_
                conv => whnf
                repeat (first | (refine acond_f (b1) ?_; conv => whnf) | (refine acond_f (b2) ?_; conv => whnf) | (refine And.intro ⟨by decide, by decide⟩ ?_; conv => whnf) | (refine And.intro (by decide) ?_; conv => whnf) | (refine And.intro (Nat.le_of_ble_eq_true rfl) ?_; conv => whnf) | (refine And.intro (by simp only [ByteArray.size_append, sb_size, lit_size, List.size_toArray, List.length_cons, List.length_nil]; omega) ?_; conv => whnf))
                refine callE (subs_av · _) tx (fun _ => rfl) ?_
                conv => whnf
                repeat (first | (refine acond_f (b1) ?_; conv => whnf) | (refine acond_f (b2) ?_; conv => whnf) | (refine And.intro ⟨by decide, by decide⟩ ?_; conv => whnf) | (refine And.intro (by decide) ?_; conv => whnf) | (refine And.intro (Nat.le_of_ble_eq_true rfl) ?_; conv => whnf) | (refine And.intro (by simp only [ByteArray.size_append, sb_size, lit_size, List.size_toArray, List.length_cons, List.length_nil]; omega) ?_; conv => whnf))
                refine callE (subs_av · _) dp (fun _ => rfl) ?_
                conv => whnf
                repeat (first | (refine acond_f (b1) ?_; conv => whnf) | (refine acond_f (b2) ?_; conv => whnf) | (refine And.intro ⟨by decide, by decide⟩ ?_; conv => whnf) | (refine And.intro (by decide) ?_; conv => whnf) | (refine And.intro (Nat.le_of_ble_eq_true rfl) ?_; conv => whnf) | (refine And.intro (by simp only [ByteArray.size_append, sb_size, lit_size, List.size_toArray, List.length_cons, List.length_nil]; omega) ?_; conv => whnf))
                refine Gh.regs [9, 3, 4, 5, 7, 6, 8] (Gh.sel [0, 1, 2, 3] rfl (Gh.of ⟨1, by omega, .inr (.inr (.inl ⟨rfl, o0, oo, ?_, ?_⟩))⟩))
                · show [_, _, _, _, _, _, (8, AV.s (sb (txtB n0 t0) ++ sb wAndS ++ sb [40] ++ sb t1 ++ sb [41]))] = _
                  simp only [sb_append]
                  simp only [accB, txtB, sepB, List.append_assoc, List.nil_append, if_true, Bool.false_eq_true, if_false]; rfl
                · refine blk4 ?_ rfl rfl ?_
                  · show subs _ [rowAV l0, rowAV l1, rowAV l2] = _; rw [subs_row3]
                  · show subs _ [(notX n0 x0).av, Ex.av (.nd k w o m l r), .p none] = _; simp only [subs, sub, sub_av]; rfl
            | false =>
              cases n1 with
              | true =>
                conv => whnf
                repeat (first | (refine acond_f (b1) ?_; conv => whnf) | (refine acond_f (b2) ?_; conv => whnf) | (refine And.intro ⟨by decide, by decide⟩ ?_; conv => whnf) | (refine And.intro (by decide) ?_; conv => whnf) | (refine And.intro (Nat.le_of_ble_eq_true rfl) ?_; conv => whnf) | (refine And.intro (by simp only [ByteArray.size_append, sb_size, lit_size, List.size_toArray, List.length_cons, List.length_nil]; omega) ?_; conv => whnf))
                refine callE (subs_row · l1) fw (fun _ => rfl) ?_
                conv => whnf
                repeat (first | (refine acond_f (b1) ?_; conv => whnf) | (refine acond_f (b2) ?_; conv => whnf) | (refine And.intro ⟨by decide, by decide⟩ ?_; conv => whnf) | (refine And.intro (by decide) ?_; conv => whnf) | (refine And.intro (Nat.le_of_ble_eq_true rfl) ?_; conv => whnf) | (refine And.intro (by simp only [ByteArray.size_append, sb_size, lit_size, List.size_toArray, List.length_cons, List.length_nil]; omega) ?_; conv => whnf))
                refine callE (subs_row · l1) tr (sub_av · _) ?_
                conv => whnf
                repeat (first | (refine acond_f (b1) ?_; conv => whnf) | (refine acond_f (b2) ?_; conv => whnf) | (refine And.intro ⟨by decide, by decide⟩ ?_; conv => whnf) | (refine And.intro (by decide) ?_; conv => whnf) | (refine And.intro (Nat.le_of_ble_eq_true rfl) ?_; conv => whnf) | (refine And.intro (by simp only [ByteArray.size_append, sb_size, lit_size, List.size_toArray, List.length_cons, List.length_nil]; omega) ?_; conv => whnf))
                refine callE (subs_av · _) tx (fun _ => rfl) ?_
                conv => whnf
                repeat (first | (refine acond_f (b1) ?_; conv => whnf) | (refine acond_f (b2) ?_; conv => whnf) | (refine And.intro ⟨by decide, by decide⟩ ?_; conv => whnf) | (refine And.intro (by decide) ?_; conv => whnf) | (refine And.intro (Nat.le_of_ble_eq_true rfl) ?_; conv => whnf) | (refine And.intro (by simp only [ByteArray.size_append, sb_size, lit_size, List.size_toArray, List.length_cons, List.length_nil]; omega) ?_; conv => whnf))
                refine callE (subs_av · _) dp (fun _ => rfl) ?_
                conv => whnf
                repeat (first | (refine acond_f (b1) ?_; conv => whnf) | (refine acond_f (b2) ?_; conv => whnf) | (refine And.intro ⟨by decide, by decide⟩ ?_; conv => whnf) | (refine And.intro (by decide) ?_; conv => whnf) | (refine And.intro (Nat.le_of_ble_eq_true rfl) ?_; conv => whnf) | (refine And.intro (by simp only [ByteArray.size_append, sb_size, lit_size, List.size_toArray, List.length_cons, List.length_nil]; omega) ?_; conv => whnf))
                refine Gh.regs [9, 3, 4, 5, 7, 6, 8] (Gh.frz 4 rfl (Gh.sel [0, 1, 2, 3] rfl (Gh.of ⟨1, by omega, .inr (.inr (.inl ⟨rfl, o0, oo, ?_, ?_⟩))⟩)))
                · show [_, _, _, _, _, _, (8, AV.s (sb (txtB n0 t0) ++ sb wOrS ++ sb wNotS ++ sb [40] ++ sb t1 ++ sb [41]))] = _
                  simp only [sb_append]
                  simp only [accB, txtB, sepB, List.append_assoc, List.nil_append, if_true, Bool.false_eq_true, if_false]; rfl
                · refine blk4 ?_ rfl rfl ?_
                  · show subs _ (subs _ [rowAV l0, rowAV l1, rowAV l2]) = _; rw [subs_row3, subs_row3]
                  · show subs _ [sub _ ((notX n0 x0).av), AV.rp [.i .i64 1, .s (sb []), .s (sb []), .i .i64 0, Ex.av (.nd k w o m l r), .p none] 0, .p none] = _; simp only [subs, sub, sub_av]; rfl
              | false =>
                conv => whnf
                repeat (first | (refine acond_f (b1) ?_; conv => whnf) | (refine acond_f (b2) ?_; conv => whnf) | (refine And.intro ⟨by decide, by decide⟩ ?_; conv => whnf) | (refine And.intro (by decide) ?_; conv => whnf) | (refine And.intro (Nat.le_of_ble_eq_true rfl) ?_; conv => whnf) | (refine And.intro (by simp only [ByteArray.size_append, sb_size, lit_size, List.size_toArray, List.length_cons, List.length_nil]; omega) ?_; conv => whnf))
                refine callE (subs_row · l1) fw (fun _ => rfl) ?_
                conv => whnf
                repeat (first | (refine acond_f (b1) ?_; conv => whnf) | (refine acond_f (b2) ?_; conv => whnf) | (refine And.intro ⟨by decide, by decide⟩ ?_; conv => whnf) | (refine And.intro (by decide) ?_; conv => whnf) | (refine And.intro (Nat.le_of_ble_eq_true rfl) ?_; conv => whnf) | (refine And.intro (by simp only [ByteArray.size_append, sb_size, lit_size, List.size_toArray, List.length_cons, List.length_nil]; omega) ?_; conv => whnf))
                refine callE (subs_row · l1) tr (sub_av · _) ?_
                conv => whnf
                repeat (first | (refine acond_f (b1) ?_; conv => whnf) | (refine acond_f (b2) ?_; conv => whnf) | (refine And.intro ⟨by decide, by decide⟩ ?_; conv => whnf) | (refine And.intro (by decide) ?_; conv => whnf) | (refine And.intro (Nat.le_of_ble_eq_true rfl) ?_; conv => whnf) | (refine And.intro (by simp only [ByteArray.size_append, sb_size, lit_size, List.size_toArray, List.length_cons, List.length_nil]; omega) ?_; conv => whnf))
                refine callE (subs_av · _) tx (fun _ => rfl) ?_
                conv => whnf
                repeat (first | (refine acond_f (b1) ?_; conv => whnf) | (refine acond_f (b2) ?_; conv => whnf) | (refine And.intro ⟨by decide, by decide⟩ ?_; conv => whnf) | (refine And.intro (by decide) ?_; conv => whnf) | (refine And.intro (Nat.le_of_ble_eq_true rfl) ?_; conv => whnf) | (refine And.intro (by simp only [ByteArray.size_append, sb_size, lit_size, List.size_toArray, List.length_cons, List.length_nil]; omega) ?_; conv => whnf))
                refine callE (subs_av · _) dp (fun _ => rfl) ?_
                conv => whnf
                repeat (first | (refine acond_f (b1) ?_; conv => whnf) | (refine acond_f (b2) ?_; conv => whnf) | (refine And.intro ⟨by decide, by decide⟩ ?_; conv => whnf) | (refine And.intro (by decide) ?_; conv => whnf) | (refine And.intro (Nat.le_of_ble_eq_true rfl) ?_; conv => whnf) | (refine And.intro (by simp only [ByteArray.size_append, sb_size, lit_size, List.size_toArray, List.length_cons, List.length_nil]; omega) ?_; conv => whnf))
                refine Gh.regs [9, 3, 4, 5, 7, 6, 8] (Gh.sel [0, 1, 2, 3] rfl (Gh.of ⟨1, by omega, .inr (.inr (.inl ⟨rfl, o0, oo, ?_, ?_⟩))⟩))
                · show [_, _, _, _, _, _, (8, AV.s (sb (txtB n0 t0) ++ sb wOrS ++ sb [40] ++ sb t1 ++ sb [41]))] = _
                  simp only [sb_append]
                  simp only [accB, txtB, sepB, List.append_assoc, List.nil_append, if_true, Bool.false_eq_true, if_false]; rfl
                · refine blk4 ?_ rfl rfl ?_
                  · show subs _ [rowAV l0, rowAV l1, rowAV l2] = _; rw [subs_row3]
                  · show subs _ [(notX n0 x0).av, Ex.av (.nd k w o m l r), .p none] = _; simp only [subs, sub, sub_av]; rfl
          · have b2 : decide ((d1 : Int) > 60) = true := decide_eq_true (by omega)
            subst hx
            conv => whnf
            repeat (first | (refine acond_f (b1) ?_; conv => whnf) | (refine acond_t (b2) ?_; conv => whnf) | (refine And.intro ⟨by decide, by decide⟩ ?_; conv => whnf) | (refine And.intro (by decide) ?_; conv => whnf) | (refine And.intro (Nat.le_of_ble_eq_true rfl) ?_; conv => whnf) | (refine And.intro (by simp only [ByteArray.size_append, sb_size, lit_size, List.size_toArray, List.length_cons, List.length_nil]; omega) ?_; conv => whnf))
            refine callE (subs_row · l1) fw (fun _ => rfl) ?_
            conv => whnf
            repeat (first | (refine acond_f (b1) ?_; conv => whnf) | (refine acond_t (b2) ?_; conv => whnf) | (refine And.intro ⟨by decide, by decide⟩ ?_; conv => whnf) | (refine And.intro (by decide) ?_; conv => whnf) | (refine And.intro (Nat.le_of_ble_eq_true rfl) ?_; conv => whnf) | (refine And.intro (by simp only [ByteArray.size_append, sb_size, lit_size, List.size_toArray, List.length_cons, List.length_nil]; omega) ?_; conv => whnf))
            refine callE (subs_row · l1) tr (sub_av · _) ?_
            conv => whnf
            repeat (first | (refine acond_f (b1) ?_; conv => whnf) | (refine acond_t (b2) ?_; conv => whnf) | (refine And.intro ⟨by decide, by decide⟩ ?_; conv => whnf) | (refine And.intro (by decide) ?_; conv => whnf) | (refine And.intro (Nat.le_of_ble_eq_true rfl) ?_; conv => whnf) | (refine And.intro (by simp only [ByteArray.size_append, sb_size, lit_size, List.size_toArray, List.length_cons, List.length_nil]; omega) ?_; conv => whnf))
            refine callE (subs_av · _) tx (fun _ => rfl) ?_
            conv => whnf
            repeat (first | (refine acond_f (b1) ?_; conv => whnf) | (refine acond_t (b2) ?_; conv => whnf) | (refine And.intro ⟨by decide, by decide⟩ ?_; conv => whnf) | (refine And.intro (by decide) ?_; conv => whnf) | (refine And.intro (Nat.le_of_ble_eq_true rfl) ?_; conv => whnf) | (refine And.intro (by simp only [ByteArray.size_append, sb_size, lit_size, List.size_toArray, List.length_cons, List.length_nil]; omega) ?_; conv => whnf))
            refine callE (subs_av · _) dp (fun _ => rfl) ?_
            conv => whnf
            repeat (first | (refine acond_f (b1) ?_; conv => whnf) | (refine acond_t (b2) ?_; conv => whnf) | (refine And.intro ⟨by decide, by decide⟩ ?_; conv => whnf) | (refine And.intro (by decide) ?_; conv => whnf) | (refine And.intro (Nat.le_of_ble_eq_true rfl) ?_; conv => whnf) | (refine And.intro (by simp only [ByteArray.size_append, sb_size, lit_size, List.size_toArray, List.length_cons, List.length_nil]; omega) ?_; conv => whnf))
            refine callE (fun _ => rfl) aw (fun _ => rfl) ?_
            conv => whnf
            repeat (first | (refine acond_f (b1) ?_; conv => whnf) | (refine acond_t (b2) ?_; conv => whnf) | (refine And.intro ⟨by decide, by decide⟩ ?_; conv => whnf) | (refine And.intro (by decide) ?_; conv => whnf) | (refine And.intro (Nat.le_of_ble_eq_true rfl) ?_; conv => whnf) | (refine And.intro (by simp only [ByteArray.size_append, sb_size, lit_size, List.size_toArray, List.length_cons, List.length_nil]; omega) ?_; conv => whnf))
            exact GhR.sel [] rfl (GhR.of ⟨rfl, rfl⟩)
        · have b1 : decide (((sb t1).size : Int) > 1000) = true := decide_eq_true (by rw [sb_size]; omega)
          subst hx
          conv => whnf
          repeat (first | (refine acond_t (b1) ?_; conv => whnf) | (refine And.intro ⟨by decide, by decide⟩ ?_; conv => whnf) | (refine And.intro (by decide) ?_; conv => whnf) | (refine And.intro (Nat.le_of_ble_eq_true rfl) ?_; conv => whnf) | (refine And.intro (by simp only [ByteArray.size_append, sb_size, lit_size, List.size_toArray, List.length_cons, List.length_nil]; omega) ?_; conv => whnf))
          refine callE (subs_row · l1) fw (fun _ => rfl) ?_
          conv => whnf
          repeat (first | (refine acond_t (b1) ?_; conv => whnf) | (refine And.intro ⟨by decide, by decide⟩ ?_; conv => whnf) | (refine And.intro (by decide) ?_; conv => whnf) | (refine And.intro (Nat.le_of_ble_eq_true rfl) ?_; conv => whnf) | (refine And.intro (by simp only [ByteArray.size_append, sb_size, lit_size, List.size_toArray, List.length_cons, List.length_nil]; omega) ?_; conv => whnf))
          refine callE (subs_row · l1) tr (sub_av · _) ?_
          conv => whnf
          repeat (first | (refine acond_t (b1) ?_; conv => whnf) | (refine And.intro ⟨by decide, by decide⟩ ?_; conv => whnf) | (refine And.intro (by decide) ?_; conv => whnf) | (refine And.intro (Nat.le_of_ble_eq_true rfl) ?_; conv => whnf) | (refine And.intro (by simp only [ByteArray.size_append, sb_size, lit_size, List.size_toArray, List.length_cons, List.length_nil]; omega) ?_; conv => whnf))
          refine callE (subs_av · _) tx (fun _ => rfl) ?_
          conv => whnf
          repeat (first | (refine acond_t (b1) ?_; conv => whnf) | (refine And.intro ⟨by decide, by decide⟩ ?_; conv => whnf) | (refine And.intro (by decide) ?_; conv => whnf) | (refine And.intro (Nat.le_of_ble_eq_true rfl) ?_; conv => whnf) | (refine And.intro (by simp only [ByteArray.size_append, sb_size, lit_size, List.size_toArray, List.length_cons, List.length_nil]; omega) ?_; conv => whnf))
          refine callE (fun _ => rfl) aw (fun _ => rfl) ?_
          conv => whnf
          repeat (first | (refine acond_t (b1) ?_; conv => whnf) | (refine And.intro ⟨by decide, by decide⟩ ?_; conv => whnf) | (refine And.intro (by decide) ?_; conv => whnf) | (refine And.intro (Nat.le_of_ble_eq_true rfl) ?_; conv => whnf) | (refine And.intro (by simp only [ByteArray.size_append, sb_size, lit_size, List.size_toArray, List.length_cons, List.length_nil]; omega) ?_; conv => whnf))
          exact GhR.sel [] rfl (GhR.of ⟨rfl, rfl⟩)
      · have b1 : (e1 != 0) = true := by simpa using he
        have b2 : (e1 == 0) = false := by simpa using he
        rw [s1.bad hf he] at tx
        cases x1 with
        | nil =>
          conv => whnf
          repeat (first | (refine acond_t (b1) ?_; conv => whnf) | (refine acond_f (b2) ?_; conv => whnf) | (refine And.intro ⟨by decide, by decide⟩ ?_; conv => whnf) | (refine And.intro (by decide) ?_; conv => whnf) | (refine And.intro (Nat.le_of_ble_eq_true rfl) ?_; conv => whnf) | (refine And.intro (by simp only [ByteArray.size_append, sb_size, lit_size, List.size_toArray, List.length_cons, List.length_nil]; omega) ?_; conv => whnf))
          refine callE (subs_row · l1) fw (fun _ => rfl) ?_
          conv => whnf
          repeat (first | (refine acond_t (b1) ?_; conv => whnf) | (refine acond_f (b2) ?_; conv => whnf) | (refine And.intro ⟨by decide, by decide⟩ ?_; conv => whnf) | (refine And.intro (by decide) ?_; conv => whnf) | (refine And.intro (Nat.le_of_ble_eq_true rfl) ?_; conv => whnf) | (refine And.intro (by simp only [ByteArray.size_append, sb_size, lit_size, List.size_toArray, List.length_cons, List.length_nil]; omega) ?_; conv => whnf))
          refine callE (subs_row · l1) tr (sub_av · _) ?_
          conv => whnf
          repeat (first | (refine acond_t (b1) ?_; conv => whnf) | (refine acond_f (b2) ?_; conv => whnf) | (refine And.intro ⟨by decide, by decide⟩ ?_; conv => whnf) | (refine And.intro (by decide) ?_; conv => whnf) | (refine And.intro (Nat.le_of_ble_eq_true rfl) ?_; conv => whnf) | (refine And.intro (by simp only [ByteArray.size_append, sb_size, lit_size, List.size_toArray, List.length_cons, List.length_nil]; omega) ?_; conv => whnf))
          refine callE (subs_av · _) tx (fun _ => rfl) ?_
          conv => whnf
          repeat (first | (refine acond_t (b1) ?_; conv => whnf) | (refine acond_f (b2) ?_; conv => whnf) | (refine And.intro ⟨by decide, by decide⟩ ?_; conv => whnf) | (refine And.intro (by decide) ?_; conv => whnf) | (refine And.intro (Nat.le_of_ble_eq_true rfl) ?_; conv => whnf) | (refine And.intro (by simp only [ByteArray.size_append, sb_size, lit_size, List.size_toArray, List.length_cons, List.length_nil]; omega) ?_; conv => whnf))
          refine callE (fun _ => rfl) aw (fun _ => rfl) ?_
          conv => whnf
          repeat (first | (refine acond_t (b1) ?_; conv => whnf) | (refine acond_f (b2) ?_; conv => whnf) | (refine And.intro ⟨by decide, by decide⟩ ?_; conv => whnf) | (refine And.intro (by decide) ?_; conv => whnf) | (refine And.intro (Nat.le_of_ble_eq_true rfl) ?_; conv => whnf) | (refine And.intro (by simp only [ByteArray.size_append, sb_size, lit_size, List.size_toArray, List.length_cons, List.length_nil]; omega) ?_; conv => whnf))
          exact GhR.sel [] rfl (GhR.of ⟨rfl, rfl⟩)
        | nd k w o m l r =>
          conv => whnf
          repeat (first | (refine acond_t (b1) ?_; conv => whnf) | (refine acond_f (b2) ?_; conv => whnf) | (refine And.intro ⟨by decide, by decide⟩ ?_; conv => whnf) | (refine And.intro (by decide) ?_; conv => whnf) | (refine And.intro (Nat.le_of_ble_eq_true rfl) ?_; conv => whnf) | (refine And.intro (by simp only [ByteArray.size_append, sb_size, lit_size, List.size_toArray, List.length_cons, List.length_nil]; omega) ?_; conv => whnf))
          refine callE (subs_row · l1) fw (fun _ => rfl) ?_
          conv => whnf
          repeat (first | (refine acond_t (b1) ?_; conv => whnf) | (refine acond_f (b2) ?_; conv => whnf) | (refine And.intro ⟨by decide, by decide⟩ ?_; conv => whnf) | (refine And.intro (by decide) ?_; conv => whnf) | (refine And.intro (Nat.le_of_ble_eq_true rfl) ?_; conv => whnf) | (refine And.intro (by simp only [ByteArray.size_append, sb_size, lit_size, List.size_toArray, List.length_cons, List.length_nil]; omega) ?_; conv => whnf))
          refine callE (subs_row · l1) tr (sub_av · _) ?_
          conv => whnf
          repeat (first | (refine acond_t (b1) ?_; conv => whnf) | (refine acond_f (b2) ?_; conv => whnf) | (refine And.intro ⟨by decide, by decide⟩ ?_; conv => whnf) | (refine And.intro (by decide) ?_; conv => whnf) | (refine And.intro (Nat.le_of_ble_eq_true rfl) ?_; conv => whnf) | (refine And.intro (by simp only [ByteArray.size_append, sb_size, lit_size, List.size_toArray, List.length_cons, List.length_nil]; omega) ?_; conv => whnf))
          refine callE (subs_av · _) tx (fun _ => rfl) ?_
          conv => whnf
          repeat (first | (refine acond_t (b1) ?_; conv => whnf) | (refine acond_f (b2) ?_; conv => whnf) | (refine And.intro ⟨by decide, by decide⟩ ?_; conv => whnf) | (refine And.intro (by decide) ?_; conv => whnf) | (refine And.intro (Nat.le_of_ble_eq_true rfl) ?_; conv => whnf) | (refine And.intro (by simp only [ByteArray.size_append, sb_size, lit_size, List.size_toArray, List.length_cons, List.length_nil]; omega) ?_; conv => whnf))
          refine callE (fun _ => rfl) aw (fun _ => rfl) ?_
          conv => whnf
          repeat (first | (refine acond_t (b1) ?_; conv => whnf) | (refine acond_f (b2) ?_; conv => whnf) | (refine And.intro ⟨by decide, by decide⟩ ?_; conv => whnf) | (refine And.intro (by decide) ?_; conv => whnf) | (refine And.intro (Nat.le_of_ble_eq_true rfl) ?_; conv => whnf) | (refine And.intro (by simp only [ByteArray.size_append, sb_size, lit_size, List.size_toArray, List.length_cons, List.length_nil]; omega) ?_; conv => whnf))
          exact GhR.sel [] rfl (GhR.of ⟨rfl, rfl⟩)
  ·
    have fw := s2.few
    have q0 := accB_len a0 n0 n1 t0 t1
    have q0' := o0.len
    have q1' := o1.len
    cases hf : fewB l2 with
    | false =>
      rw [hf] at fw
      conv => whnf
      repeat (first | (refine And.intro ⟨by decide, by decide⟩ ?_; conv => whnf) | (refine And.intro (by decide) ?_; conv => whnf) | (refine And.intro (Nat.le_of_ble_eq_true rfl) ?_; conv => whnf) | (refine And.intro (by simp only [ByteArray.size_append, sb_size, lit_size, List.size_toArray, List.length_cons, List.length_nil]; omega) ?_; conv => whnf))
      refine callE (subs_row · l2) fw (fun _ => rfl) ?_
      conv => whnf
      repeat (first | (refine And.intro ⟨by decide, by decide⟩ ?_; conv => whnf) | (refine And.intro (by decide) ?_; conv => whnf) | (refine And.intro (Nat.le_of_ble_eq_true rfl) ?_; conv => whnf) | (refine And.intro (by simp only [ByteArray.size_append, sb_size, lit_size, List.size_toArray, List.length_cons, List.length_nil]; omega) ?_; conv => whnf))
      refine callE (fun _ => rfl) aw (fun _ => rfl) ?_
      conv => whnf
      repeat (first | (refine And.intro ⟨by decide, by decide⟩ ?_; conv => whnf) | (refine And.intro (by decide) ?_; conv => whnf) | (refine And.intro (Nat.le_of_ble_eq_true rfl) ?_; conv => whnf) | (refine And.intro (by simp only [ByteArray.size_append, sb_size, lit_size, List.size_toArray, List.length_cons, List.length_nil]; omega) ?_; conv => whnf))
      exact GhR.sel [] rfl (GhR.of ⟨rfl, rfl⟩)
    | true =>
      rw [hf] at fw
      have tr := s2.tree hf
      have tx := s2.text hf
      have dp := s2.dep hf
      by_cases he : e2 = 0
      · obtain ⟨g1, g2, g3, g4⟩ := s2.ok hf he
        rw [he] at tx
        obtain ⟨k, w, o, m, l, r, hx⟩ := g1.nd
        by_cases hl : t2.length ≤ 1000
        · have b1 : decide (((sb t2).size : Int) > 1000) = false := decide_eq_false (by rw [sb_size]; omega)
          by_cases hd : d2 ≤ 60
          · have b2 : decide ((d2 : Int) > 60) = false := decide_eq_false (by omega)
            have oo : OpOK l2 x2 t2 := ⟨hf, g1, g2, by omega, g3, hl⟩
            subst hx
            cases a1 with
            | true =>
              cases n2 with
              | true =>
                conv => whnf
                repeat (first | (refine acond_f (b1) ?_; conv => whnf) | (refine acond_f (b2) ?_; conv => whnf) | (refine And.intro ⟨by decide, by decide⟩ ?_; conv => whnf) | (refine And.intro (by decide) ?_; conv => whnf) | (refine And.intro (Nat.le_of_ble_eq_true rfl) ?_; conv => whnf) | (refine And.intro (by simp only [ByteArray.size_append, sb_size, lit_size, List.size_toArray, List.length_cons, List.length_nil]; omega) ?_; conv => whnf))
                refine callE (subs_row · l2) fw (fun _ => rfl) ?_
                conv => whnf
                repeat (first | (refine acond_f (b1) ?_; conv => whnf) | (refine acond_f (b2) ?_; conv => whnf) | (refine And.intro ⟨by decide, by decide⟩ ?_; conv => whnf) | (refine And.intro (by decide) ?_; conv => whnf) | (refine And.intro (Nat.le_of_ble_eq_true rfl) ?_; conv => whnf) | (refine And.intro (by simp only [ByteArray.size_append, sb_size, lit_size, List.size_toArray, List.length_cons, List.length_nil]; omega) ?_; conv => whnf))
                refine callE (subs_row · l2) tr (sub_av · _) ?_
                conv => whnf
                repeat (first | (refine acond_f (b1) ?_; conv => whnf) | (refine acond_f (b2) ?_; conv => whnf) | (refine And.intro ⟨by decide, by decide⟩ ?_; conv => whnf) | (refine And.intro (by decide) ?_; conv => whnf) | (refine And.intro (Nat.le_of_ble_eq_true rfl) ?_; conv => whnf) | (refine And.intro (by simp only [ByteArray.size_append, sb_size, lit_size, List.size_toArray, List.length_cons, List.length_nil]; omega) ?_; conv => whnf))
                refine callE (subs_av · _) tx (fun _ => rfl) ?_
                conv => whnf
                repeat (first | (refine acond_f (b1) ?_; conv => whnf) | (refine acond_f (b2) ?_; conv => whnf) | (refine And.intro ⟨by decide, by decide⟩ ?_; conv => whnf) | (refine And.intro (by decide) ?_; conv => whnf) | (refine And.intro (Nat.le_of_ble_eq_true rfl) ?_; conv => whnf) | (refine And.intro (by simp only [ByteArray.size_append, sb_size, lit_size, List.size_toArray, List.length_cons, List.length_nil]; omega) ?_; conv => whnf))
                refine callE (subs_av · _) dp (fun _ => rfl) ?_
                conv => whnf
                repeat (first | (refine acond_f (b1) ?_; conv => whnf) | (refine acond_f (b2) ?_; conv => whnf) | (refine And.intro ⟨by decide, by decide⟩ ?_; conv => whnf) | (refine And.intro (by decide) ?_; conv => whnf) | (refine And.intro (Nat.le_of_ble_eq_true rfl) ?_; conv => whnf) | (refine And.intro (by simp only [ByteArray.size_append, sb_size, lit_size, List.size_toArray, List.length_cons, List.length_nil]; omega) ?_; conv => whnf))
                refine Gh.regs [9, 3, 4, 5, 7, 6, 8] (Gh.frz 4 rfl (Gh.sel [0, 1, 2, 3] rfl (Gh.of ⟨0, by omega, .inr (.inr (.inr ⟨rfl, o0, o1, oo, ?_, ?_⟩))⟩)))
                · show [_, _, _, _, _, _, (8, AV.s (sb (accB a0 n0 n1 t0 t1) ++ sb wAndS ++ sb wNotS ++ sb [40] ++ sb t2 ++ sb [41]))] = _
                  simp only [sb_append]
                  simp only [accB, txtB, sepB, List.append_assoc, List.nil_append, if_true, Bool.false_eq_true, if_false]; rfl
                · refine blk4 ?_ rfl rfl ?_
                  · show subs _ (subs _ [rowAV l0, rowAV l1, rowAV l2]) = _; rw [subs_row3, subs_row3]
                  · show subs _ [sub _ ((notX n0 x0).av), sub _ ((notX n1 x1).av), AV.rp [.i .i64 1, .s (sb []), .s (sb []), .i .i64 0, Ex.av (.nd k w o m l r), .p none] 0] = _; simp only [subs, sub, sub_av]; rfl
              | false =>
                conv => whnf
                repeat (first | (refine acond_f (b1) ?_; conv => whnf) | (refine acond_f (b2) ?_; conv => whnf) | (refine And.intro ⟨by decide, by decide⟩ ?_; conv => whnf) | (refine And.intro (by decide) ?_; conv => whnf) | (refine And.intro (Nat.le_of_ble_eq_true rfl) ?_; conv => whnf) | (refine And.intro (by simp only [ByteArray.size_append, sb_size, lit_size, List.size_toArray, List.length_cons, List.length_nil]; omega) ?_; conv => whnf))
                refine callE (subs_row · l2) fw (fun _ => rfl) ?_
                conv => whnf
                repeat (first | (refine acond_f (b1) ?_; conv => whnf) | (refine acond_f (b2) ?_; conv => whnf) | (refine And.intro ⟨by decide, by decide⟩ ?_; conv => whnf) | (refine And.intro (by decide) ?_; conv => whnf) | (refine And.intro (Nat.le_of_ble_eq_true rfl) ?_; conv => whnf) | (refine And.intro (by simp only [ByteArray.size_append, sb_size, lit_size, List.size_toArray, List.length_cons, List.length_nil]; omega) ?_; conv => whnf))
                refine callE (subs_row · l2) tr (sub_av · _) ?_
                conv => whnf
                repeat (first | (refine acond_f (b1) ?_; conv => whnf) | (refine acond_f (b2) ?_; conv => whnf) | (refine And.intro ⟨by decide, by decide⟩ ?_; conv => whnf) | (refine And.intro (by decide) ?_; conv => whnf) | (refine And.intro (Nat.le_of_ble_eq_true rfl) ?_; conv => whnf) | (refine And.intro (by simp only [ByteArray.size_append, sb_size, lit_size, List.size_toArray, List.length_cons, List.length_nil]; omega) ?_; conv => whnf))
                refine callE (subs_av · _) tx (fun _ => rfl) ?_
                conv => whnf
                repeat (first | (refine acond_f (b1) ?_; conv => whnf) | (refine acond_f (b2) ?_; conv => whnf) | (refine And.intro ⟨by decide, by decide⟩ ?_; conv => whnf) | (refine And.intro (by decide) ?_; conv => whnf) | (refine And.intro (Nat.le_of_ble_eq_true rfl) ?_; conv => whnf) | (refine And.intro (by simp only [ByteArray.size_append, sb_size, lit_size, List.size_toArray, List.length_cons, List.length_nil]; omega) ?_; conv => whnf))
                refine callE (subs_av · _) dp (fun _ => rfl) ?_
                conv => whnf
                repeat (first | (refine acond_f (b1) ?_; conv => whnf) | (refine acond_f (b2) ?_; conv => whnf) | (refine And.intro ⟨by decide, by decide⟩ ?_; conv => whnf) | (refine And.intro (by decide) ?_; conv => whnf) | (refine And.intro (Nat.le_of_ble_eq_true rfl) ?_; conv => whnf) | (refine And.intro (by simp only [ByteArray.size_append, sb_size, lit_size, List.size_toArray, List.length_cons, List.length_nil]; omega) ?_; conv => whnf))
                refine Gh.regs [9, 3, 4, 5, 7, 6, 8] (Gh.sel [0, 1, 2, 3] rfl (Gh.of ⟨0, by omega, .inr (.inr (.inr ⟨rfl, o0, o1, oo, ?_, ?_⟩))⟩))
                · show [_, _, _, _, _, _, (8, AV.s (sb (accB a0 n0 n1 t0 t1) ++ sb wAndS ++ sb [40] ++ sb t2 ++ sb [41]))] = _
                  simp only [sb_append]
                  simp only [accB, txtB, sepB, List.append_assoc, List.nil_append, if_true, Bool.false_eq_true, if_false]; rfl
                · refine blk4 ?_ rfl rfl ?_
                  · show subs _ [rowAV l0, rowAV l1, rowAV l2] = _; rw [subs_row3]
                  · show subs _ [(notX n0 x0).av, (notX n1 x1).av, Ex.av (.nd k w o m l r)] = _; simp only [subs, sub, sub_av]; rfl
            | false =>
              cases n2 with
              | true =>
                conv => whnf
                repeat (first | (refine acond_f (b1) ?_; conv => whnf) | (refine acond_f (b2) ?_; conv => whnf) | (refine And.intro ⟨by decide, by decide⟩ ?_; conv => whnf) | (refine And.intro (by decide) ?_; conv => whnf) | (refine And.intro (Nat.le_of_ble_eq_true rfl) ?_; conv => whnf) | (refine And.intro (by simp only [ByteArray.size_append, sb_size, lit_size, List.size_toArray, List.length_cons, List.length_nil]; omega) ?_; conv => whnf))
                refine callE (subs_row · l2) fw (fun _ => rfl) ?_
                conv => whnf
                repeat (first | (refine acond_f (b1) ?_; conv => whnf) | (refine acond_f (b2) ?_; conv => whnf) | (refine And.intro ⟨by decide, by decide⟩ ?_; conv => whnf) | (refine And.intro (by decide) ?_; conv => whnf) | (refine And.intro (Nat.le_of_ble_eq_true rfl) ?_; conv => whnf) | (refine And.intro (by simp only [ByteArray.size_append, sb_size, lit_size, List.size_toArray, List.length_cons, List.length_nil]; omega) ?_; conv => whnf))
                refine callE (subs_row · l2) tr (sub_av · _) ?_
                conv => whnf
                repeat (first | (refine acond_f (b1) ?_; conv => whnf) | (refine acond_f (b2) ?_; conv => whnf) | (refine And.intro ⟨by decide, by decide⟩ ?_; conv => whnf) | (refine And.intro (by decide) ?_; conv => whnf) | (refine And.intro (Nat.le_of_ble_eq_true rfl) ?_; conv => whnf) | (refine And.intro (by simp only [ByteArray.size_append, sb_size, lit_size, List.size_toArray, List.length_cons, List.length_nil]; omega) ?_; conv => whnf))
                refine callE (subs_av · _) tx (fun _ => rfl) ?_
                conv => whnf
                repeat (first | (refine acond_f (b1) ?_; conv => whnf) | (refine acond_f (b2) ?_; conv => whnf) | (refine And.intro ⟨by decide, by decide⟩ ?_; conv => whnf) | (refine And.intro (by decide) ?_; conv => whnf) | (refine And.intro (Nat.le_of_ble_eq_true rfl) ?_; conv => whnf) | (refine And.intro (by simp only [ByteArray.size_append, sb_size, lit_size, List.size_toArray, List.length_cons, List.length_nil]; omega) ?_; conv => whnf))
                refine callE (subs_av · _) dp (fun _ => rfl) ?_
                conv => whnf
                repeat (first | (refine acond_f (b1) ?_; conv => whnf) | (refine acond_f (b2) ?_; conv => whnf) | (refine And.intro ⟨by decide, by decide⟩ ?_; conv => whnf) | (refine And.intro (by decide) ?_; conv => whnf) | (refine And.intro (Nat.le_of_ble_eq_true rfl) ?_; conv => whnf) | (refine And.intro (by simp only [ByteArray.size_append, sb_size, lit_size, List.size_toArray, List.length_cons, List.length_nil]; omega) ?_; conv => whnf))
                refine Gh.regs [9, 3, 4, 5, 7, 6, 8] (Gh.frz 4 rfl (Gh.sel [0, 1, 2, 3] rfl (Gh.of ⟨0, by omega, .inr (.inr (.inr ⟨rfl, o0, o1, oo, ?_, ?_⟩))⟩)))
                · show [_, _, _, _, _, _, (8, AV.s (sb (accB a0 n0 n1 t0 t1) ++ sb wOrS ++ sb wNotS ++ sb [40] ++ sb t2 ++ sb [41]))] = _
                  simp only [sb_append]
                  simp only [accB, txtB, sepB, List.append_assoc, List.nil_append, if_true, Bool.false_eq_true, if_false]; rfl
                · refine blk4 ?_ rfl rfl ?_
                  · show subs _ (subs _ [rowAV l0, rowAV l1, rowAV l2]) = _; rw [subs_row3, subs_row3]
                  · show subs _ [sub _ ((notX n0 x0).av), sub _ ((notX n1 x1).av), AV.rp [.i .i64 1, .s (sb []), .s (sb []), .i .i64 0, Ex.av (.nd k w o m l r), .p none] 0] = _; simp only [subs, sub, sub_av]; rfl
              | false =>
                conv => whnf
                repeat (first | (refine acond_f (b1) ?_; conv => whnf) | (refine acond_f (b2) ?_; conv => whnf) | (refine And.intro ⟨by decide, by decide⟩ ?_; conv => whnf) | (refine And.intro (by decide) ?_; conv => whnf) | (refine And.intro (Nat.le_of_ble_eq_true rfl) ?_; conv => whnf) | (refine And.intro (by simp only [ByteArray.size_append, sb_size, lit_size, List.size_toArray, List.length_cons, List.length_nil]; omega) ?_; conv => whnf))
                refine callE (subs_row · l2) fw (fun _ => rfl) ?_
                conv => whnf
                repeat (first | (refine acond_f (b1) ?_; conv => whnf) | (refine acond_f (b2) ?_; conv => whnf) | (refine And.intro ⟨by decide, by decide⟩ ?_; conv => whnf) | (refine And.intro (by decide) ?_; conv => whnf) | (refine And.intro (Nat.le_of_ble_eq_true rfl) ?_; conv => whnf) | (refine And.intro (by simp only [ByteArray.size_append, sb_size, lit_size, List.size_toArray, List.length_cons, List.length_nil]; omega) ?_; conv => whnf))
                refine callE (subs_row · l2) tr (sub_av · _) ?_
                conv => whnf
                repeat (first | (refine acond_f (b1) ?_; conv => whnf) | (refine acond_f (b2) ?_; conv => whnf) | (refine And.intro ⟨by decide, by decide⟩ ?_; conv => whnf) | (refine And.intro (by decide) ?_; conv => whnf) | (refine And.intro (Nat.le_of_ble_eq_true rfl) ?_; conv => whnf) | (refine And.intro (by simp only [ByteArray.size_append, sb_size, lit_size, List.size_toArray, List.length_cons, List.length_nil]; omega) ?_; conv => whnf))
                refine callE (subs_av · _) tx (fun _ => rfl) ?_
                conv => whnf
                repeat (first | (refine acond_f (b1) ?_; conv => whnf) | (refine acond_f (b2) ?_; conv => whnf) | (refine And.intro ⟨by decide, by decide⟩ ?_; conv => whnf) | (refine And.intro (by decide) ?_; conv => whnf) | (refine And.intro (Nat.le_of_ble_eq_true rfl) ?_; conv => whnf) | (refine And.intro (by simp only [ByteArray.size_append, sb_size, lit_size, List.size_toArray, List.length_cons, List.length_nil]; omega) ?_; conv => whnf))
                refine callE (subs_av · _) dp (fun _ => rfl) ?_
                conv => whnf
                repeat (first | (refine acond_f (b1) ?_; conv => whnf) | (refine acond_f (b2) ?_; conv => whnf) | (refine And.intro ⟨by decide, by decide⟩ ?_; conv => whnf) | (refine And.intro (by decide) ?_; conv => whnf) | (refine And.intro (Nat.le_of_ble_eq_true rfl) ?_; conv => whnf) | (refine And.intro (by simp only [ByteArray.size_append, sb_size, lit_size, List.size_toArray, List.length_cons, List.length_nil]; omega) ?_; conv => whnf))
                refine Gh.regs [9, 3, 4, 5, 7, 6, 8] (Gh.sel [0, 1, 2, 3] rfl (Gh.of ⟨0, by omega, .inr (.inr (.inr ⟨rfl, o0, o1, oo, ?_, ?_⟩))⟩))
                · show [_, _, _, _, _, _, (8, AV.s (sb (accB a0 n0 n1 t0 t1) ++ sb wOrS ++ sb [40] ++ sb t2 ++ sb [41]))] = _
                  simp only [sb_append]
                  simp only [accB, txtB, sepB, List.append_assoc, List.nil_append, if_true, Bool.false_eq_true, if_false]; rfl
                · refine blk4 ?_ rfl rfl ?_
                  · show subs _ [rowAV l0, rowAV l1, rowAV l2] = _; rw [subs_row3]
                  · show subs _ [(notX n0 x0).av, (notX n1 x1).av, Ex.av (.nd k w o m l r)] = _; simp only [subs, sub, sub_av]; rfl
          · have b2 : decide ((d2 : Int) > 60) = true := decide_eq_true (by omega)
            subst hx
            conv => whnf
            repeat (first | (refine acond_f (b1) ?_; conv => whnf) | (refine acond_t (b2) ?_; conv => whnf) | (refine And.intro ⟨by decide, by decide⟩ ?_; conv => whnf) | (refine And.intro (by decide) ?_; conv => whnf) | (refine And.intro (Nat.le_of_ble_eq_true rfl) ?_; conv => whnf) | (refine And.intro (by simp only [ByteArray.size_append, sb_size, lit_size, List.size_toArray, List.length_cons, List.length_nil]; omega) ?_; conv => whnf))
            refine callE (subs_row · l2) fw (fun _ => rfl) ?_
            conv => whnf
            repeat (first | (refine acond_f (b1) ?_; conv => whnf) | (refine acond_t (b2) ?_; conv => whnf) | (refine And.intro ⟨by decide, by decide⟩ ?_; conv => whnf) | (refine And.intro (by decide) ?_; conv => whnf) | (refine And.intro (Nat.le_of_ble_eq_true rfl) ?_; conv => whnf) | (refine And.intro (by simp only [ByteArray.size_append, sb_size, lit_size, List.size_toArray, List.length_cons, List.length_nil]; omega) ?_; conv => whnf))
            refine callE (subs_row · l2) tr (sub_av · _) ?_
            conv => whnf
            repeat (first | (refine acond_f (b1) ?_; conv => whnf) | (refine acond_t (b2) ?_; conv => whnf) | (refine And.intro ⟨by decide, by decide⟩ ?_; conv => whnf) | (refine And.intro (by decide) ?_; conv => whnf) | (refine And.intro (Nat.le_of_ble_eq_true rfl) ?_; conv => whnf) | (refine And.intro (by simp only [ByteArray.size_append, sb_size, lit_size, List.size_toArray, List.length_cons, List.length_nil]; omega) ?_; conv => whnf))
            refine callE (subs_av · _) tx (fun _ => rfl) ?_
            conv => whnf
            repeat (first | (refine acond_f (b1) ?_; conv => whnf) | (refine acond_t (b2) ?_; conv => whnf) | (refine And.intro ⟨by decide, by decide⟩ ?_; conv => whnf) | (refine And.intro (by decide) ?_; conv => whnf) | (refine And.intro (Nat.le_of_ble_eq_true rfl) ?_; conv => whnf) | (refine And.intro (by simp only [ByteArray.size_append, sb_size, lit_size, List.size_toArray, List.length_cons, List.length_nil]; omega) ?_; conv => whnf))
            refine callE (subs_av · _) dp (fun _ => rfl) ?_
            conv => whnf
            repeat (first | (refine acond_f (b1) ?_; conv => whnf) | (refine acond_t (b2) ?_; conv => whnf) | (refine And.intro ⟨by decide, by decide⟩ ?_; conv => whnf) | (refine And.intro (by decide) ?_; conv => whnf) | (refine And.intro (Nat.le_of_ble_eq_true rfl) ?_; conv => whnf) | (refine And.intro (by simp only [ByteArray.size_append, sb_size, lit_size, List.size_toArray, List.length_cons, List.length_nil]; omega) ?_; conv => whnf))
            refine callE (fun _ => rfl) aw (fun _ => rfl) ?_
            conv => whnf
            repeat (first | (refine acond_f (b1) ?_; conv => whnf) | (refine acond_t (b2) ?_; conv => whnf) | (refine And.intro ⟨by decide, by decide⟩ ?_; conv => whnf) | (refine And.intro (by decide) ?_; conv => whnf) | (refine And.intro (Nat.le_of_ble_eq_true rfl) ?_; conv => whnf) | (refine And.intro (by simp only [ByteArray.size_append, sb_size, lit_size, List.size_toArray, List.length_cons, List.length_nil]; omega) ?_; conv => whnf))
            exact GhR.sel [] rfl (GhR.of ⟨rfl, rfl⟩)
        · have b1 : decide (((sb t2).size : Int) > 1000) = true := decide_eq_true (by rw [sb_size]; omega)
          subst hx
          conv => whnf
          repeat (first | (refine acond_t (b1) ?_; conv => whnf) | (refine And.intro ⟨by decide, by decide⟩ ?_; conv => whnf) | (refine And.intro (by decide) ?_; conv => whnf) | (refine And.intro (Nat.le_of_ble_eq_true rfl) ?_; conv => whnf) | (refine And.intro (by simp only [ByteArray.size_append, sb_size, lit_size, List.size_toArray, List.length_cons, List.length_nil]; omega) ?_; conv => whnf))
          refine callE (subs_row · l2) fw (fun _ => rfl) ?_
          conv => whnf
          repeat (first | (refine acond_t (b1) ?_; conv => whnf) | (refine And.intro ⟨by decide, by decide⟩ ?_; conv => whnf) | (refine And.intro (by decide) ?_; conv => whnf) | (refine And.intro (Nat.le_of_ble_eq_true rfl) ?_; conv => whnf) | (refine And.intro (by simp only [ByteArray.size_append, sb_size, lit_size, List.size_toArray, List.length_cons, List.length_nil]; omega) ?_; conv => whnf))
          refine callE (subs_row · l2) tr (sub_av · _) ?_
          conv => whnf
          repeat (first | (refine acond_t (b1) ?_; conv => whnf) | (refine And.intro ⟨by decide, by decide⟩ ?_; conv => whnf) | (refine And.intro (by decide) ?_; conv => whnf) | (refine And.intro (Nat.le_of_ble_eq_true rfl) ?_; conv => whnf) | (refine And.intro (by simp only [ByteArray.size_append, sb_size, lit_size, List.size_toArray, List.length_cons, List.length_nil]; omega) ?_; conv => whnf))
          refine callE (subs_av · _) tx (fun _ => rfl) ?_
          conv => whnf
          repeat (first | (refine acond_t (b1) ?_; conv => whnf) | (refine And.intro ⟨by decide, by decide⟩ ?_; conv => whnf) | (refine And.intro (by decide) ?_; conv => whnf) | (refine And.intro (Nat.le_of_ble_eq_true rfl) ?_; conv => whnf) | (refine And.intro (by simp only [ByteArray.size_append, sb_size, lit_size, List.size_toArray, List.length_cons, List.length_nil]; omega) ?_; conv => whnf))
          refine callE (fun _ => rfl) aw (fun _ => rfl) ?_
          conv => whnf
          repeat (first | (refine acond_t (b1) ?_; conv => whnf) | (refine And.intro ⟨by decide, by decide⟩ ?_; conv => whnf) | (refine And.intro (by decide) ?_; conv => whnf) | (refine And.intro (Nat.le_of_ble_eq_true rfl) ?_; conv => whnf) | (refine And.intro (by simp only [ByteArray.size_append, sb_size, lit_size, List.size_toArray, List.length_cons, List.length_nil]; omega) ?_; conv => whnf))
          exact GhR.sel [] rfl (GhR.of ⟨rfl, rfl⟩)
      · have b1 : (e2 != 0) = true := by simpa using he
        have b2 : (e2 == 0) = false := by simpa using he
        rw [s2.bad hf he] at tx
        cases x2 with
        | nil =>
          conv => whnf
          repeat (first | (refine acond_t (b1) ?_; conv => whnf) | (refine acond_f (b2) ?_; conv => whnf) | (refine And.intro ⟨by decide, by decide⟩ ?_; conv => whnf) | (refine And.intro (by decide) ?_; conv => whnf) | (refine And.intro (Nat.le_of_ble_eq_true rfl) ?_; conv => whnf) | (refine And.intro (by simp only [ByteArray.size_append, sb_size, lit_size, List.size_toArray, List.length_cons, List.length_nil]; omega) ?_; conv => whnf))
          refine callE (subs_row · l2) fw (fun _ => rfl) ?_
          conv => whnf
          repeat (first | (refine acond_t (b1) ?_; conv => whnf) | (refine acond_f (b2) ?_; conv => whnf) | (refine And.intro ⟨by decide, by decide⟩ ?_; conv => whnf) | (refine And.intro (by decide) ?_; conv => whnf) | (refine And.intro (Nat.le_of_ble_eq_true rfl) ?_; conv => whnf) | (refine And.intro (by simp only [ByteArray.size_append, sb_size, lit_size, List.size_toArray, List.length_cons, List.length_nil]; omega) ?_; conv => whnf))
          refine callE (subs_row · l2) tr (sub_av · _) ?_
          conv => whnf
          repeat (first | (refine acond_t (b1) ?_; conv => whnf) | (refine acond_f (b2) ?_; conv => whnf) | (refine And.intro ⟨by decide, by decide⟩ ?_; conv => whnf) | (refine And.intro (by decide) ?_; conv => whnf) | (refine And.intro (Nat.le_of_ble_eq_true rfl) ?_; conv => whnf) | (refine And.intro (by simp only [ByteArray.size_append, sb_size, lit_size, List.size_toArray, List.length_cons, List.length_nil]; omega) ?_; conv => whnf))
          refine callE (subs_av · _) tx (fun _ => rfl) ?_
          conv => whnf
          repeat (first | (refine acond_t (b1) ?_; conv => whnf) | (refine acond_f (b2) ?_; conv => whnf) | (refine And.intro ⟨by decide, by decide⟩ ?_; conv => whnf) | (refine And.intro (by decide) ?_; conv => whnf) | (refine And.intro (Nat.le_of_ble_eq_true rfl) ?_; conv => whnf) | (refine And.intro (by simp only [ByteArray.size_append, sb_size, lit_size, List.size_toArray, List.length_cons, List.length_nil]; omega) ?_; conv => whnf))
          refine callE (fun _ => rfl) aw (fun _ => rfl) ?_
          conv => whnf
          repeat (first | (refine acond_t (b1) ?_; conv => whnf) | (refine acond_f (b2) ?_; conv => whnf) | (refine And.intro ⟨by decide, by decide⟩ ?_; conv => whnf) | (refine And.intro (by decide) ?_; conv => whnf) | (refine And.intro (Nat.le_of_ble_eq_true rfl) ?_; conv => whnf) | (refine And.intro (by simp only [ByteArray.size_append, sb_size, lit_size, List.size_toArray, List.length_cons, List.length_nil]; omega) ?_; conv => whnf))
          exact GhR.sel [] rfl (GhR.of ⟨rfl, rfl⟩)
        | nd k w o m l r =>
          conv => whnf
          repeat (first | (refine acond_t (b1) ?_; conv => whnf) | (refine acond_f (b2) ?_; conv => whnf) | (refine And.intro ⟨by decide, by decide⟩ ?_; conv => whnf) | (refine And.intro (by decide) ?_; conv => whnf) | (refine And.intro (Nat.le_of_ble_eq_true rfl) ?_; conv => whnf) | (refine And.intro (by simp only [ByteArray.size_append, sb_size, lit_size, List.size_toArray, List.length_cons, List.length_nil]; omega) ?_; conv => whnf))
          refine callE (subs_row · l2) fw (fun _ => rfl) ?_
          conv => whnf
          repeat (first | (refine acond_t (b1) ?_; conv => whnf) | (refine acond_f (b2) ?_; conv => whnf) | (refine And.intro ⟨by decide, by decide⟩ ?_; conv => whnf) | (refine And.intro (by decide) ?_; conv => whnf) | (refine And.intro (Nat.le_of_ble_eq_true rfl) ?_; conv => whnf) | (refine And.intro (by simp only [ByteArray.size_append, sb_size, lit_size, List.size_toArray, List.length_cons, List.length_nil]; omega) ?_; conv => whnf))
          refine callE (subs_row · l2) tr (sub_av · _) ?_
          conv => whnf
          repeat (first | (refine acond_t (b1) ?_; conv => whnf) | (refine acond_f (b2) ?_; conv => whnf) | (refine And.intro ⟨by decide, by decide⟩ ?_; conv => whnf) | (refine And.intro (by decide) ?_; conv => whnf) | (refine And.intro (Nat.le_of_ble_eq_true rfl) ?_; conv => whnf) | (refine And.intro (by simp only [ByteArray.size_append, sb_size, lit_size, List.size_toArray, List.length_cons, List.length_nil]; omega) ?_; conv => whnf))
          refine callE (subs_av · _) tx (fun _ => rfl) ?_
          conv => whnf
          repeat (first | (refine acond_t (b1) ?_; conv => whnf) | (refine acond_f (b2) ?_; conv => whnf) | (refine And.intro ⟨by decide, by decide⟩ ?_; conv => whnf) | (refine And.intro (by decide) ?_; conv => whnf) | (refine And.intro (Nat.le_of_ble_eq_true rfl) ?_; conv => whnf) | (refine And.intro (by simp only [ByteArray.size_append, sb_size, lit_size, List.size_toArray, List.length_cons, List.length_nil]; omega) ?_; conv => whnf))
          refine callE (fun _ => rfl) aw (fun _ => rfl) ?_
          conv => whnf
          repeat (first | (refine acond_t (b1) ?_; conv => whnf) | (refine acond_f (b2) ?_; conv => whnf) | (refine And.intro ⟨by decide, by decide⟩ ?_; conv => whnf) | (refine And.intro (by decide) ?_; conv => whnf) | (refine And.intro (Nat.le_of_ble_eq_true rfl) ?_; conv => whnf) | (refine And.intro (by simp only [ByteArray.size_append, sb_size, lit_size, List.size_toArray, List.length_cons, List.length_nil]; omega) ?_; conv => whnf))
          exact GhR.sel [] rfl (GhR.of ⟨rfl, rfl⟩)
  · have hT : accB a0 n0 n1 t0 t1 ++ (sepB a1 ++ txtB n2 t2) = textB a0 a1 n0 n1 n2 (x0.txt 0) (x1.txt 0) (x2.txt 0) := by
      rw [o0.txt, o1.txt, o2.txt]; simp only [accB, textB, List.append_assoc]
    have hlen : (textB a0 a1 n0 n1 n2 (x0.txt 0) (x1.txt 0) (x2.txt 0)).length ≤ 8192 := by
      rw [← hT]
      have := accB_len a0 n0 n1 t0 t1; have := txtB_len n2 t2; have := o0.len; have := o1.len; have := o2.len
      have hs : (sepB a1).length ≤ 5 := by cases a1 <;> decide
      simp only [List.length_append]; omega
    have hp := parse_spec _ (show (textB a0 a1 n0 n1 n2 (x0.txt 0) (x1.txt 0) (x2.txt 0)).length ≤ 10000 by omega)
    rw [binds_parse o0.gt o0.num o0.dep o1.gt o1.num o1.dep o2.gt o2.num o2.dep a0 a1 n0 n1 n2 (by rw [← o0.txt]; exact o0.len) (by rw [← o1.txt]; exact o1.len) (by rw [← o2.txt]; exact o2.len)] at hp
    rw [hT]
    generalize textB a0 a1 n0 n1 n2 (x0.txt 0) (x1.txt 0) (x2.txt 0) = tt at hp
    have nn : ∀ (b : Bool) {x : Ex}, GT x → ∃ k w o n l r, notX b x = .nd k w o n l r := by
      intro b x h
      cases b
      · exact h.nd
      · exact ⟨_, _, _, _, _, _, rfl⟩
    obtain ⟨k0, w0, p0, m0, y0, z0, h0⟩ := nn n0 o0.gt
    obtain ⟨k1, w1, p1, m1, y1, z1, h1⟩ := nn n1 o1.gt
    obtain ⟨k2, w2, p2, m2, y2, z2, h2⟩ := nn n2 o2.gt
    rw [h0, h1, h2] at hp
    rw [h0, h1, h2]
    clear s0 s1 s2 o0 o1 o2
    cases a0 with
    | true =>
      cases a1 with
      | true =>
        obtain ⟨J, hJ⟩ : ∃ J : Ex, J = (.nd 2 [] [] 0 (.nd 2 [] [] 0 (.nd k0 w0 p0 m0 y0 z0) (.nd k1 w1 p1 m1 y1 z1)) (.nd k2 w2 p2 m2 y2 z2)) := ⟨_, rfl⟩
        have he := equal_spec J J
        rw [show J.same J = true from Ex.same_iff.2 rfl] at he
        have hp : ACall Tryd.prog 10 [.s (sb tt)] [] fun R H => R = .ret (.tup [J.av, .i .i64 0, .i .i64 0]) ∧ H = [] := by rw [hJ]; exact hp
        have hv : ∀ φ : Nat → Sb, sub φ (.tup [J.av, .i .i64 0, .i .i64 0]) = .tup [J.av, .i .i64 0, .i .i64 0] := fun φ => by show AV.tup [sub φ (Ex.av _), _, _] = _; rw [sub_av]; rfl
        conv => whnf
        repeat (first | (refine And.intro ⟨by decide, by decide⟩ ?_; conv => whnf) | (refine And.intro (by decide) ?_; conv => whnf) | (refine And.intro (Nat.le_of_ble_eq_true rfl) ?_; conv => whnf) | (refine And.intro (by simp only [ByteArray.size_append, sb_size, lit_size, List.size_toArray, List.length_cons, List.length_nil]; omega) ?_; conv => whnf))
        refine callE (fun _ => rfl) hp hv ?_
        conv => whnf
        repeat (first | (refine And.intro ⟨by decide, by decide⟩ ?_; conv => whnf) | (refine And.intro (by decide) ?_; conv => whnf) | (refine And.intro (Nat.le_of_ble_eq_true rfl) ?_; conv => whnf) | (refine And.intro (by simp only [ByteArray.size_append, sb_size, lit_size, List.size_toArray, List.length_cons, List.length_nil]; omega) ?_; conv => whnf))
        refine ALoopR.loop (n := 3) ?_
        refine ALoopR.to [16, 15, 14, 13, 12, 6, 4, 7] (r' := [(16, .i .i64 0), (15, .p (some (4, 0))), (14, .i .i64 0), (13, .i .i64 0), (12, J.av), (6, .b false), (4, .p (some (1, 0))), (7, .p (some (3, 0)))]) rfl (H' := bH l0 l1 l2 true true n0 n1 n2 [Ex.av (.nd k0 w0 p0 m0 y0 z0), Ex.av (.nd k1 w1 p1 m1 y1 z1), Ex.av (.nd k2 w2 p2 m2 y2 z2)] ++ [.c [.i .i64 3, .i .i64 3]]) rfl (ALoopR.step (ip := false) tok ?_)
        conv => whnf
        repeat (first | (refine And.intro ⟨by decide, by decide⟩ ?_; conv => whnf) | (refine And.intro (by decide) ?_; conv => whnf) | (refine And.intro (Nat.le_of_ble_eq_true rfl) ?_; conv => whnf) | (refine And.intro (by simp only [ByteArray.size_append, sb_size, lit_size, List.size_toArray, List.length_cons, List.length_nil]; omega) ?_; conv => whnf))
        refine ALoopR.to [16, 15, 14, 13, 12, 6, 4, 7] (r' := [(16, .i .i64 1), (15, .p (some (4, 0))), (14, .i .i64 0), (13, .i .i64 0), (12, J.av), (6, .b false), (4, .p (some (1, 0))), (7, .p (some (3, 0)))]) rfl (H' := bH l0 l1 l2 true true n0 n1 n2 [Ex.av (.nd k0 w0 p0 m0 y0 z0), Ex.av (.nd k1 w1 p1 m1 y1 z1), Ex.av (.nd k2 w2 p2 m2 y2 z2)] ++ [.c [.i .i64 2, .i .i64 3]]) rfl (ALoopR.step (ip := false) tok ?_)
        conv => whnf
        repeat (first | (refine And.intro ⟨by decide, by decide⟩ ?_; conv => whnf) | (refine And.intro (by decide) ?_; conv => whnf) | (refine And.intro (Nat.le_of_ble_eq_true rfl) ?_; conv => whnf) | (refine And.intro (by simp only [ByteArray.size_append, sb_size, lit_size, List.size_toArray, List.length_cons, List.length_nil]; omega) ?_; conv => whnf))
        refine ALoopR.to [16, 15, 14, 13, 12, 6, 4, 7] (r' := [(16, .i .i64 2), (15, .p (some (4, 0))), (14, .i .i64 0), (13, .i .i64 0), (12, J.av), (6, .b false), (4, .p (some (1, 0))), (7, .p (some (3, 0)))]) rfl (H' := bH l0 l1 l2 true true n0 n1 n2 [Ex.av (.nd k0 w0 p0 m0 y0 z0), Ex.av (.nd k1 w1 p1 m1 y1 z1), Ex.av (.nd k2 w2 p2 m2 y2 z2)] ++ [.c [.i .i64 2, .i .i64 2]]) rfl (ALoopR.step (ip := false) tok ?_)
        conv => whnf
        repeat (first | (refine And.intro ⟨by decide, by decide⟩ ?_; conv => whnf) | (refine And.intro (by decide) ?_; conv => whnf) | (refine And.intro (Nat.le_of_ble_eq_true rfl) ?_; conv => whnf) | (refine And.intro (by simp only [ByteArray.size_append, sb_size, lit_size, List.size_toArray, List.length_cons, List.length_nil]; omega) ?_; conv => whnf))
        refine ACall.frameH [] [6, 5] rfl (args' := [J.av, J.av]) (Hc := []) (by show [sub _ (Ex.av _), AV.rp [_, _, _, _, AV.rp [_, _, _, _, sub _ (Ex.av _), sub _ (Ex.av _)] 0, sub _ (Ex.av _)] 0] = _; simp only [sub_av]; rw [hJ]; rfl) rfl he ?_
        rintro r0 H2 ⟨rfl, rfl⟩
        refine ⟨.inr ⟨rfl, rfl⟩, _, rfl, ?_⟩
        conv => whnf
        repeat (first | (refine And.intro ⟨by decide, by decide⟩ ?_; conv => whnf) | (refine And.intro (by decide) ?_; conv => whnf) | (refine And.intro (Nat.le_of_ble_eq_true rfl) ?_; conv => whnf) | (refine And.intro (by simp only [ByteArray.size_append, sb_size, lit_size, List.size_toArray, List.length_cons, List.length_nil]; omega) ?_; conv => whnf))
        refine callE (fun _ => rfl) aw (fun _ => rfl) ?_
        conv => whnf
        repeat (first | (refine And.intro ⟨by decide, by decide⟩ ?_; conv => whnf) | (refine And.intro (by decide) ?_; conv => whnf) | (refine And.intro (Nat.le_of_ble_eq_true rfl) ?_; conv => whnf) | (refine And.intro (by simp only [ByteArray.size_append, sb_size, lit_size, List.size_toArray, List.length_cons, List.length_nil]; omega) ?_; conv => whnf))
        exact GhR.sel [] rfl (GhR.of ⟨rfl, rfl⟩)
      | false =>
        obtain ⟨J, hJ⟩ : ∃ J : Ex, J = (.nd 3 [] [] 0 (.nd 2 [] [] 0 (.nd k0 w0 p0 m0 y0 z0) (.nd k1 w1 p1 m1 y1 z1)) (.nd k2 w2 p2 m2 y2 z2)) := ⟨_, rfl⟩
        have he := equal_spec J J
        rw [show J.same J = true from Ex.same_iff.2 rfl] at he
        have hp : ACall Tryd.prog 10 [.s (sb tt)] [] fun R H => R = .ret (.tup [J.av, .i .i64 0, .i .i64 0]) ∧ H = [] := by rw [hJ]; exact hp
        have hv : ∀ φ : Nat → Sb, sub φ (.tup [J.av, .i .i64 0, .i .i64 0]) = .tup [J.av, .i .i64 0, .i .i64 0] := fun φ => by show AV.tup [sub φ (Ex.av _), _, _] = _; rw [sub_av]; rfl
        conv => whnf
        repeat (first | (refine And.intro ⟨by decide, by decide⟩ ?_; conv => whnf) | (refine And.intro (by decide) ?_; conv => whnf) | (refine And.intro (Nat.le_of_ble_eq_true rfl) ?_; conv => whnf) | (refine And.intro (by simp only [ByteArray.size_append, sb_size, lit_size, List.size_toArray, List.length_cons, List.length_nil]; omega) ?_; conv => whnf))
        refine callE (fun _ => rfl) hp hv ?_
        conv => whnf
        repeat (first | (refine And.intro ⟨by decide, by decide⟩ ?_; conv => whnf) | (refine And.intro (by decide) ?_; conv => whnf) | (refine And.intro (Nat.le_of_ble_eq_true rfl) ?_; conv => whnf) | (refine And.intro (by simp only [ByteArray.size_append, sb_size, lit_size, List.size_toArray, List.length_cons, List.length_nil]; omega) ?_; conv => whnf))
        refine ALoopR.loop (n := 3) ?_
        refine ALoopR.to [16, 15, 14, 13, 12, 6, 4, 7] (r' := [(16, .i .i64 0), (15, .p (some (4, 0))), (14, .i .i64 0), (13, .i .i64 0), (12, J.av), (6, .b false), (4, .p (some (1, 0))), (7, .p (some (3, 0)))]) rfl (H' := bH l0 l1 l2 true false n0 n1 n2 [Ex.av (.nd k0 w0 p0 m0 y0 z0), Ex.av (.nd k1 w1 p1 m1 y1 z1), Ex.av (.nd k2 w2 p2 m2 y2 z2)] ++ [.c [.i .i64 3, .i .i64 3]]) rfl (ALoopR.step (ip := false) tok ?_)
        conv => whnf
        repeat (first | (refine And.intro ⟨by decide, by decide⟩ ?_; conv => whnf) | (refine And.intro (by decide) ?_; conv => whnf) | (refine And.intro (Nat.le_of_ble_eq_true rfl) ?_; conv => whnf) | (refine And.intro (by simp only [ByteArray.size_append, sb_size, lit_size, List.size_toArray, List.length_cons, List.length_nil]; omega) ?_; conv => whnf))
        refine ALoopR.to [16, 15, 14, 13, 12, 6, 4, 7] (r' := [(16, .i .i64 1), (15, .p (some (4, 0))), (14, .i .i64 0), (13, .i .i64 0), (12, J.av), (6, .b false), (4, .p (some (1, 0))), (7, .p (some (3, 0)))]) rfl (H' := bH l0 l1 l2 true false n0 n1 n2 [Ex.av (.nd k0 w0 p0 m0 y0 z0), Ex.av (.nd k1 w1 p1 m1 y1 z1), Ex.av (.nd k2 w2 p2 m2 y2 z2)] ++ [.c [.i .i64 2, .i .i64 3]]) rfl (ALoopR.step (ip := false) tok ?_)
        conv => whnf
        repeat (first | (refine And.intro ⟨by decide, by decide⟩ ?_; conv => whnf) | (refine And.intro (by decide) ?_; conv => whnf) | (refine And.intro (Nat.le_of_ble_eq_true rfl) ?_; conv => whnf) | (refine And.intro (by simp only [ByteArray.size_append, sb_size, lit_size, List.size_toArray, List.length_cons, List.length_nil]; omega) ?_; conv => whnf))
        refine ALoopR.to [16, 15, 14, 13, 12, 6, 4, 7] (r' := [(16, .i .i64 2), (15, .p (some (4, 0))), (14, .i .i64 0), (13, .i .i64 0), (12, J.av), (6, .b false), (4, .p (some (1, 0))), (7, .p (some (3, 0)))]) rfl (H' := bH l0 l1 l2 true false n0 n1 n2 [Ex.av (.nd k0 w0 p0 m0 y0 z0), Ex.av (.nd k1 w1 p1 m1 y1 z1), Ex.av (.nd k2 w2 p2 m2 y2 z2)] ++ [.c [.i .i64 2, .i .i64 3]]) rfl (ALoopR.step (ip := false) tok ?_)
        conv => whnf
        repeat (first | (refine And.intro ⟨by decide, by decide⟩ ?_; conv => whnf) | (refine And.intro (by decide) ?_; conv => whnf) | (refine And.intro (Nat.le_of_ble_eq_true rfl) ?_; conv => whnf) | (refine And.intro (by simp only [ByteArray.size_append, sb_size, lit_size, List.size_toArray, List.length_cons, List.length_nil]; omega) ?_; conv => whnf))
        refine ACall.frameH [] [6, 5] rfl (args' := [J.av, J.av]) (Hc := []) (by show [sub _ (Ex.av _), AV.rp [_, _, _, _, AV.rp [_, _, _, _, sub _ (Ex.av _), sub _ (Ex.av _)] 0, sub _ (Ex.av _)] 0] = _; simp only [sub_av]; rw [hJ]; rfl) rfl he ?_
        rintro r0 H2 ⟨rfl, rfl⟩
        refine ⟨.inr ⟨rfl, rfl⟩, _, rfl, ?_⟩
        conv => whnf
        repeat (first | (refine And.intro ⟨by decide, by decide⟩ ?_; conv => whnf) | (refine And.intro (by decide) ?_; conv => whnf) | (refine And.intro (Nat.le_of_ble_eq_true rfl) ?_; conv => whnf) | (refine And.intro (by simp only [ByteArray.size_append, sb_size, lit_size, List.size_toArray, List.length_cons, List.length_nil]; omega) ?_; conv => whnf))
        refine callE (fun _ => rfl) aw (fun _ => rfl) ?_
        conv => whnf
        repeat (first | (refine And.intro ⟨by decide, by decide⟩ ?_; conv => whnf) | (refine And.intro (by decide) ?_; conv => whnf) | (refine And.intro (Nat.le_of_ble_eq_true rfl) ?_; conv => whnf) | (refine And.intro (by simp only [ByteArray.size_append, sb_size, lit_size, List.size_toArray, List.length_cons, List.length_nil]; omega) ?_; conv => whnf))
        exact GhR.sel [] rfl (GhR.of ⟨rfl, rfl⟩)
    | false =>
      cases a1 with
      | true =>
        obtain ⟨J, hJ⟩ : ∃ J : Ex, J = (.nd 3 [] [] 0 (.nd k0 w0 p0 m0 y0 z0) (.nd 2 [] [] 0 (.nd k1 w1 p1 m1 y1 z1) (.nd k2 w2 p2 m2 y2 z2))) := ⟨_, rfl⟩
        have he := equal_spec J J
        rw [show J.same J = true from Ex.same_iff.2 rfl] at he
        have hp : ACall Tryd.prog 10 [.s (sb tt)] [] fun R H => R = .ret (.tup [J.av, .i .i64 0, .i .i64 0]) ∧ H = [] := by rw [hJ]; exact hp
        have hv : ∀ φ : Nat → Sb, sub φ (.tup [J.av, .i .i64 0, .i .i64 0]) = .tup [J.av, .i .i64 0, .i .i64 0] := fun φ => by show AV.tup [sub φ (Ex.av _), _, _] = _; rw [sub_av]; rfl
        conv => whnf
        repeat (first | (refine And.intro ⟨by decide, by decide⟩ ?_; conv => whnf) | (refine And.intro (by decide) ?_; conv => whnf) | (refine And.intro (Nat.le_of_ble_eq_true rfl) ?_; conv => whnf) | (refine And.intro (by simp only [ByteArray.size_append, sb_size, lit_size, List.size_toArray, List.length_cons, List.length_nil]; omega) ?_; conv => whnf))
        refine callE (fun _ => rfl) hp hv ?_
        conv => whnf
        repeat (first | (refine And.intro ⟨by decide, by decide⟩ ?_; conv => whnf) | (refine And.intro (by decide) ?_; conv => whnf) | (refine And.intro (Nat.le_of_ble_eq_true rfl) ?_; conv => whnf) | (refine And.intro (by simp only [ByteArray.size_append, sb_size, lit_size, List.size_toArray, List.length_cons, List.length_nil]; omega) ?_; conv => whnf))
        refine ALoopR.loop (n := 3) ?_
        refine ALoopR.to [16, 15, 14, 13, 12, 6, 4, 7] (r' := [(16, .i .i64 0), (15, .p (some (4, 0))), (14, .i .i64 0), (13, .i .i64 0), (12, J.av), (6, .b false), (4, .p (some (1, 0))), (7, .p (some (3, 0)))]) rfl (H' := bH l0 l1 l2 false true n0 n1 n2 [Ex.av (.nd k0 w0 p0 m0 y0 z0), Ex.av (.nd k1 w1 p1 m1 y1 z1), Ex.av (.nd k2 w2 p2 m2 y2 z2)] ++ [.c [.i .i64 3, .i .i64 3]]) rfl (ALoopR.step (ip := false) tok ?_)
        conv => whnf
        repeat (first | (refine And.intro ⟨by decide, by decide⟩ ?_; conv => whnf) | (refine And.intro (by decide) ?_; conv => whnf) | (refine And.intro (Nat.le_of_ble_eq_true rfl) ?_; conv => whnf) | (refine And.intro (by simp only [ByteArray.size_append, sb_size, lit_size, List.size_toArray, List.length_cons, List.length_nil]; omega) ?_; conv => whnf))
        refine ALoopR.to [16, 15, 14, 13, 12, 6, 4, 7] (r' := [(16, .i .i64 1), (15, .p (some (4, 0))), (14, .i .i64 0), (13, .i .i64 0), (12, J.av), (6, .b false), (4, .p (some (1, 0))), (7, .p (some (3, 0)))]) rfl (H' := bH l0 l1 l2 false true n0 n1 n2 [Ex.av (.nd k0 w0 p0 m0 y0 z0), Ex.av (.nd k1 w1 p1 m1 y1 z1), Ex.av (.nd k2 w2 p2 m2 y2 z2)] ++ [.c [.i .i64 3, .i .i64 3]]) rfl (ALoopR.step (ip := false) tok ?_)
        conv => whnf
        repeat (first | (refine And.intro ⟨by decide, by decide⟩ ?_; conv => whnf) | (refine And.intro (by decide) ?_; conv => whnf) | (refine And.intro (Nat.le_of_ble_eq_true rfl) ?_; conv => whnf) | (refine And.intro (by simp only [ByteArray.size_append, sb_size, lit_size, List.size_toArray, List.length_cons, List.length_nil]; omega) ?_; conv => whnf))
        refine ALoopR.to [16, 15, 14, 13, 12, 6, 4, 7] (r' := [(16, .i .i64 2), (15, .p (some (4, 0))), (14, .i .i64 0), (13, .i .i64 0), (12, J.av), (6, .b false), (4, .p (some (1, 0))), (7, .p (some (3, 0)))]) rfl (H' := bH l0 l1 l2 false true n0 n1 n2 [Ex.av (.nd k0 w0 p0 m0 y0 z0), Ex.av (.nd k1 w1 p1 m1 y1 z1), Ex.av (.nd k2 w2 p2 m2 y2 z2)] ++ [.c [.i .i64 3, .i .i64 2]]) rfl (ALoopR.step (ip := false) tok ?_)
        conv => whnf
        repeat (first | (refine And.intro ⟨by decide, by decide⟩ ?_; conv => whnf) | (refine And.intro (by decide) ?_; conv => whnf) | (refine And.intro (Nat.le_of_ble_eq_true rfl) ?_; conv => whnf) | (refine And.intro (by simp only [ByteArray.size_append, sb_size, lit_size, List.size_toArray, List.length_cons, List.length_nil]; omega) ?_; conv => whnf))
        refine ACall.frameH [] [8, 7] rfl (args' := [J.av, J.av]) (Hc := []) (by show [sub _ (Ex.av _), AV.rp [_, _, _, _, sub _ (Ex.av _), AV.rp [_, _, _, _, sub _ (Ex.av _), sub _ (Ex.av _)] 0] 0] = _; simp only [sub_av]; rw [hJ]; rfl) rfl he ?_
        rintro r0 H2 ⟨rfl, rfl⟩
        refine ⟨.inr ⟨rfl, rfl⟩, _, rfl, ?_⟩
        conv => whnf
        repeat (first | (refine And.intro ⟨by decide, by decide⟩ ?_; conv => whnf) | (refine And.intro (by decide) ?_; conv => whnf) | (refine And.intro (Nat.le_of_ble_eq_true rfl) ?_; conv => whnf) | (refine And.intro (by simp only [ByteArray.size_append, sb_size, lit_size, List.size_toArray, List.length_cons, List.length_nil]; omega) ?_; conv => whnf))
        refine callE (fun _ => rfl) aw (fun _ => rfl) ?_
        conv => whnf
        repeat (first | (refine And.intro ⟨by decide, by decide⟩ ?_; conv => whnf) | (refine And.intro (by decide) ?_; conv => whnf) | (refine And.intro (Nat.le_of_ble_eq_true rfl) ?_; conv => whnf) | (refine And.intro (by simp only [ByteArray.size_append, sb_size, lit_size, List.size_toArray, List.length_cons, List.length_nil]; omega) ?_; conv => whnf))
        exact GhR.sel [] rfl (GhR.of ⟨rfl, rfl⟩)
      | false =>
        obtain ⟨J, hJ⟩ : ∃ J : Ex, J = (.nd 3 [] [] 0 (.nd 3 [] [] 0 (.nd k0 w0 p0 m0 y0 z0) (.nd k1 w1 p1 m1 y1 z1)) (.nd k2 w2 p2 m2 y2 z2)) := ⟨_, rfl⟩
        have he := equal_spec J J
        rw [show J.same J = true from Ex.same_iff.2 rfl] at he
        have hp : ACall Tryd.prog 10 [.s (sb tt)] [] fun R H => R = .ret (.tup [J.av, .i .i64 0, .i .i64 0]) ∧ H = [] := by rw [hJ]; exact hp
        have hv : ∀ φ : Nat → Sb, sub φ (.tup [J.av, .i .i64 0, .i .i64 0]) = .tup [J.av, .i .i64 0, .i .i64 0] := fun φ => by show AV.tup [sub φ (Ex.av _), _, _] = _; rw [sub_av]; rfl
        conv => whnf
        repeat (first | (refine And.intro ⟨by decide, by decide⟩ ?_; conv => whnf) | (refine And.intro (by decide) ?_; conv => whnf) | (refine And.intro (Nat.le_of_ble_eq_true rfl) ?_; conv => whnf) | (refine And.intro (by simp only [ByteArray.size_append, sb_size, lit_size, List.size_toArray, List.length_cons, List.length_nil]; omega) ?_; conv => whnf))
        refine callE (fun _ => rfl) hp hv ?_
        conv => whnf
        repeat (first | (refine And.intro ⟨by decide, by decide⟩ ?_; conv => whnf) | (refine And.intro (by decide) ?_; conv => whnf) | (refine And.intro (Nat.le_of_ble_eq_true rfl) ?_; conv => whnf) | (refine And.intro (by simp only [ByteArray.size_append, sb_size, lit_size, List.size_toArray, List.length_cons, List.length_nil]; omega) ?_; conv => whnf))
        refine ALoopR.loop (n := 3) ?_
        refine ALoopR.to [16, 15, 14, 13, 12, 6, 4, 7] (r' := [(16, .i .i64 0), (15, .p (some (4, 0))), (14, .i .i64 0), (13, .i .i64 0), (12, J.av), (6, .b false), (4, .p (some (1, 0))), (7, .p (some (3, 0)))]) rfl (H' := bH l0 l1 l2 false false n0 n1 n2 [Ex.av (.nd k0 w0 p0 m0 y0 z0), Ex.av (.nd k1 w1 p1 m1 y1 z1), Ex.av (.nd k2 w2 p2 m2 y2 z2)] ++ [.c [.i .i64 3, .i .i64 3]]) rfl (ALoopR.step (ip := false) tok ?_)
        conv => whnf
        repeat (first | (refine And.intro ⟨by decide, by decide⟩ ?_; conv => whnf) | (refine And.intro (by decide) ?_; conv => whnf) | (refine And.intro (Nat.le_of_ble_eq_true rfl) ?_; conv => whnf) | (refine And.intro (by simp only [ByteArray.size_append, sb_size, lit_size, List.size_toArray, List.length_cons, List.length_nil]; omega) ?_; conv => whnf))
        refine ALoopR.to [16, 15, 14, 13, 12, 6, 4, 7] (r' := [(16, .i .i64 1), (15, .p (some (4, 0))), (14, .i .i64 0), (13, .i .i64 0), (12, J.av), (6, .b false), (4, .p (some (1, 0))), (7, .p (some (3, 0)))]) rfl (H' := bH l0 l1 l2 false false n0 n1 n2 [Ex.av (.nd k0 w0 p0 m0 y0 z0), Ex.av (.nd k1 w1 p1 m1 y1 z1), Ex.av (.nd k2 w2 p2 m2 y2 z2)] ++ [.c [.i .i64 3, .i .i64 3]]) rfl (ALoopR.step (ip := false) tok ?_)
        conv => whnf
        repeat (first | (refine And.intro ⟨by decide, by decide⟩ ?_; conv => whnf) | (refine And.intro (by decide) ?_; conv => whnf) | (refine And.intro (Nat.le_of_ble_eq_true rfl) ?_; conv => whnf) | (refine And.intro (by simp only [ByteArray.size_append, sb_size, lit_size, List.size_toArray, List.length_cons, List.length_nil]; omega) ?_; conv => whnf))
        refine ALoopR.to [16, 15, 14, 13, 12, 6, 4, 7] (r' := [(16, .i .i64 2), (15, .p (some (4, 0))), (14, .i .i64 0), (13, .i .i64 0), (12, J.av), (6, .b false), (4, .p (some (1, 0))), (7, .p (some (3, 0)))]) rfl (H' := bH l0 l1 l2 false false n0 n1 n2 [Ex.av (.nd k0 w0 p0 m0 y0 z0), Ex.av (.nd k1 w1 p1 m1 y1 z1), Ex.av (.nd k2 w2 p2 m2 y2 z2)] ++ [.c [.i .i64 3, .i .i64 3]]) rfl (ALoopR.step (ip := false) tok ?_)
        conv => whnf
        repeat (first | (refine And.intro ⟨by decide, by decide⟩ ?_; conv => whnf) | (refine And.intro (by decide) ?_; conv => whnf) | (refine And.intro (Nat.le_of_ble_eq_true rfl) ?_; conv => whnf) | (refine And.intro (by simp only [ByteArray.size_append, sb_size, lit_size, List.size_toArray, List.length_cons, List.length_nil]; omega) ?_; conv => whnf))
        refine ACall.frameH [] [6, 5] rfl (args' := [J.av, J.av]) (Hc := []) (by show [sub _ (Ex.av _), AV.rp [_, _, _, _, AV.rp [_, _, _, _, sub _ (Ex.av _), sub _ (Ex.av _)] 0, sub _ (Ex.av _)] 0] = _; simp only [sub_av]; rw [hJ]; rfl) rfl he ?_
        rintro r0 H2 ⟨rfl, rfl⟩
        refine ⟨.inr ⟨rfl, rfl⟩, _, rfl, ?_⟩
        conv => whnf
        repeat (first | (refine And.intro ⟨by decide, by decide⟩ ?_; conv => whnf) | (refine And.intro (by decide) ?_; conv => whnf) | (refine And.intro (Nat.le_of_ble_eq_true rfl) ?_; conv => whnf) | (refine And.intro (by simp only [ByteArray.size_append, sb_size, lit_size, List.size_toArray, List.length_cons, List.length_nil]; omega) ?_; conv => whnf))
        refine callE (fun _ => rfl) aw (fun _ => rfl) ?_
        conv => whnf
        repeat (first | (refine And.intro ⟨by decide, by decide⟩ ?_; conv => whnf) | (refine And.intro (by decide) ?_; conv => whnf) | (refine And.intro (Nat.le_of_ble_eq_true rfl) ?_; conv => whnf) | (refine And.intro (by simp only [ByteArray.size_append, sb_size, lit_size, List.size_toArray, List.length_cons, List.length_nil]; omega) ?_; conv => whnf))
        exact GhR.sel [] rfl (GhR.of ⟨rfl, rfl⟩)
end Go.AK
namespace Go.AK
open Go Go.RowKit Go.Proofs
set_option linter.unusedVariables false
set_option maxRecDepth 100000
theorem opS_of {l : List Nod} (h : rowOK l) : OpS l (treeOf l) (treeOf l).textE (treeOf l).checkE (treeOf l).depth := by
  obtain ⟨hl, hok⟩ := h
  have hm := maxLen_lt hl
  refine ⟨few_spec l hm, fun hf => tree_mk_spec l (by have := (fewB_of hf).1; omega), fun hf => ?_, fun hf => ?_, fun hf he => ?_, fun hf he => ?_⟩
  · have o := treeOf_ok hf hok
    exact Text_spec _ (by have := o.dep; omega) o.num (by have := o.wt; omega)
  · have o := treeOf_ok hf hok
    exact depth_spec _ (by have := o.dep; omega)
  · have o := treeOf_ok hf hok
    obtain ⟨h1, h2, h3⟩ := check_ok he
    exact ⟨GT_of _ h3 h1, o.num, by unfold Ex.textE; rw [if_pos he], rfl⟩
  · unfold Ex.textE; rw [if_neg he]
theorem exprBinds_top (F : List Nod × List Nod × List Nod) (w : rowOK F.1 ∧ rowOK F.2.1 ∧ rowOK F.2.2) (A : Bool × Bool) (wA : True) (N : Bool × Bool × Bool) (wN : True) :
    ACall Tryd.prog 7 [.agg [rowAV F.1, rowAV F.2.1, rowAV F.2.2], .agg [.b A.1, .b A.2], .agg [.b N.1, .b N.2.1, .b N.2.2]] [] fun R H => R = .ret (.b true) ∧ H = [] :=
  exprBinds_spec _ _ _ _ _ _ _ _ _ _ _ _ _ _ _ _ _ _ _ _ (opS_of w.1) (opS_of w.2.1) (opS_of w.2.2)
end Go.AK
namespace Go.AK
open Go Go.RowKit Go.Proofs
set_option linter.unusedVariables false
set_option maxRecDepth 100000
def byN (B : Str) : List Int := B.map fun c => ((c.toNat : Nat) : Int)
def byC (B : Str) : List AV := nums .u8 (byN B)
theorem byC_append (a b : Str) : byC (a ++ b) = byC a ++ byC b := by simp [byC, byN, nums]
theorem byC_len (B : Str) : (byC B).length = B.length := by simp [byC, byN, nums]
theorem subs_byC (φ : Nat → Sb) (B : Str) : subs φ (byC B) = byC B := subs_nums _ _ _
theorem strOf_by (B : Str) : strOf (byN B) = sb B := by
  unfold strOf sb byN
  congr 2
  rw [List.map_map]
  exact (List.map_congr_left fun c _ => by simp).trans (List.map_id B)
def zR (v : Nat) (i : Int) (B : Str) (g : Nat) (x : Ex) (t : Str) (left : Int) : Regs := [(v, .i .i64 i), (10, .sl (some (1, 0)) 1 B.length g), (4, .p (some (0, 0))), (6, .b false), (7, x.av), (8, .s (sb t)), (2, .i .i64 left)]
def zH (k m : Nat) (B : Str) : Heap := [.c [.i .i64 k, .i .i64 m], .c (byC B)]
theorem appB (B C : Str) : List.take (B.length * 1) (List.drop 0 (byC B)) ++ byC C = byC (B ++ C) := by
  rw [List.drop_zero, Nat.mul_one, List.take_of_length_le (by rw [byC_len]; exact Nat.le_refl _), byC_append]
theorem exb_take (k : Nat) (t : Str) (j : Nat) (h : j < t.length) : exb k (t.take (j + 1)) = exb k (t.take j) ++ (if t.getD j 0 = 32 then List.replicate k 32 else [t.getD j 0]) := by
  rw [List.take_add_one, exb_append, List.getElem?_eq_getElem h, List.getD_eq_getElem?_getD, List.getElem?_eq_getElem h]
  show _ ++ exb k [t[j]] = _
  rw [exb_cons, exb_nil, List.append_nil]; rfl
theorem subs_av2 (φ : Nat → Sb) (x y : Ex) : subs φ [x.av, y.av] = [x.av, y.av] := by rw [subs, sub_av, subs_av]
theorem byC_all (B : Str) : List.take (B.length * 1) (List.drop 0 (byC B)) = bysOf (byN B) := by
  rw [List.drop_zero, Nat.mul_one, List.take_of_length_le (by rw [byC_len]; exact Nat.le_refl _)]; rfl
theorem zR_eq {v : Nat} {w iv : Int} {n g : Nat} {B : Str} {x : Ex} {t : Str} {left : Int} {φ : Nat → Sb} (h1 : w = iv) (h2 : n = B.length) :
    [(v, AV.i .i64 w), (10, .sl (some (1, 0)) 1 n g), (4, .p (some (0, 0))), (6, .b false), (7, sub φ x.av), (8, .s (sb t)), (2, .i .i64 left)] = zR v iv B g x t left := by
  subst h1; subst h2; rw [sub_av]; rfl
theorem zH_eq {k m : Nat} (B C : Str) {D : Str} {φ : Nat → Sb} (h : D = B ++ C) :
    [Blk.c [.i .i64 k, .i .i64 m], Blk.c (subs φ (List.take (B.length * 1) (List.drop 0 (byC B)) ++ byC C))] = zH k m D := by
  subst h; rw [appB, subs_byC]; rfl
def zK (B : Str) (g : Nat) (x : Ex) (t : Str) (left : Int) : Regs := [(10, .sl (some (1, 0)) 1 B.length g), (4, .p (some (0, 0))), (6, .b false), (7, x.av), (8, .s (sb t)), (2, .i .i64 left)]
theorem exprBlanks_spec (l : List Nod) (x : Ex) (t : Str) (e : Int) (d : Nat) (s : OpS l x t e d) (k m : Nat) (hk : 1 ≤ k) (hk5 : k ≤ 5) (hm : m ≤ 3) (left : Int) (hleft : -9223372036854775808 ≤ left ∧ left ≤ 9223372036854775807)
    (hf : fewB l = true) (he : e = 0) (hl : t.length ≤ 1500) :
    ACall Tryd.prog 6 [rowAV l, .agg [.i .i64 k, .i .i64 m], .i .i64 left] [] fun R H => R = .ret (.b true) ∧ H = [] := by
  have aw := awake_spec
  have fw := s.few
  rw [hf] at fw
  have tr := s.tree hf
  have tx := s.text hf
  have dp := s.dep hf
  obtain ⟨g1, g2, g3, g4⟩ := s.ok hf he
  rw [he] at tx
  have c1 : decide (((k : Nat) : Int) < 1) = false := decide_eq_false (by omega)
  have c2 : decide (((k : Nat) : Int) > 5) = false := decide_eq_false (by omega)
  have c3 : decide (((m : Nat) : Int) < 0) = false := decide_eq_false (by omega)
  have c4 : decide (((m : Nat) : Int) > 3) = false := decide_eq_false (by omega)
  have c5 : decide (((sb t).size : Int) > 1500) = false := decide_eq_false (by rw [sb_size]; omega)
  refine ACall.gh ?_
  refine ACall.enter tok false Tryd.func6 rfl rfl rfl (AW_sound (ip := false) tok _ _ _ _ ?_)
  conv => whnf
  refine callE (subs_row · l) fw (fun _ => rfl) ?_
  conv => whnf
  repeat (first | (refine acond_f (c1) ?_; conv => whnf) | (refine acond_f (c2) ?_; conv => whnf) | (refine acond_f (c3) ?_; conv => whnf) | (refine acond_f (c4) ?_; conv => whnf))
  repeat (first | (refine acond_f c1 ?_; conv => whnf) | (refine acond_f c2 ?_; conv => whnf) | (refine acond_f c3 ?_; conv => whnf) | (refine acond_f c4 ?_; conv => whnf) | (refine And.intro ⟨by decide, by decide⟩ ?_; conv => whnf) | (refine And.intro (by decide) ?_; conv => whnf))
  refine callE (subs_row · l) tr (sub_av · x) ?_
  conv => whnf
  refine callE (subs_av · x) tx (fun _ => rfl) ?_
  conv => whnf
  repeat (first | (refine acond_f (c5) ?_; conv => whnf))
  refine ALoop.post (i := 0) (fun r H => ∃ g, m ≤ g ∧ keepR [10, 4, 6, 7, 8, 2] r = zK (List.replicate m 40) g x t left ∧ H = zH k m (List.replicate m 40)) ?_ ?_
  · refine ALoop.ind (ip := false) tok (fun q r H => ∃ i : Nat, i ≤ m ∧ q = m - i ∧ ∃ g, i ≤ g ∧ r = zR 11 i (List.replicate i 40) g x t left ∧ H = zH k m (List.replicate i 40)) m ?_ ?_
    · exact Gh.regs [11, 10, 4, 6, 7, 8, 2] (Gh.of ⟨0, by omega, rfl, 0, by omega, rfl, rfl⟩)
    rintro q r H ⟨i, hi, rfl, g, hg, rfl, rfl⟩
    have hw : IntKind.i64.wrap ((i : Int) + 1) = ((i + 1 : Nat) : Int) := wrap_small (by omega) (by omega)
    have hr : (List.replicate i (40 : UInt8)).length = i := List.length_replicate
    have hbl := byC_len (List.replicate i 40)
    by_cases h : ((i : Nat) : Int) < (m : Int)
    · conv => whnf
      repeat (first | (refine acond_t (decide_eq_true h) ?_; conv => whnf) | (refine acond_f (decide_eq_false h) ?_; conv => whnf) | (refine And.intro ⟨by decide, by decide⟩ ?_; conv => whnf) | (refine And.intro (by decide) ?_; conv => whnf))
      refine And.intro (by show 0 + (List.replicate i (40 : UInt8)).length * 1 ≤ _; omega) ?_
      conv => whnf
      refine And.intro (by decide) ?_
      conv => whnf
      refine ⟨rfl, by (try dsimp only); omega, by omega, fun g' hg' => ?_⟩
      conv => whnf
      refine Gh.regs [11, 10, 4, 6, 7, 8, 2] (Gh.sel [0, 3] rfl (Gh.of ⟨m - (i + 1), by omega, i + 1, by omega, rfl, g', by omega, ?_, ?_⟩))
      · exact zR_eq hw (by simp)
      · exact zH_eq (List.replicate i 40) [40] List.replicate_succ'
    · have : i = m := by omega
      subst this
      conv => whnf
      repeat (first | (refine acond_t (decide_eq_true h) ?_; conv => whnf) | (refine acond_f (decide_eq_false h) ?_; conv => whnf) | (refine And.intro ⟨by decide, by decide⟩ ?_; conv => whnf) | (refine And.intro (by decide) ?_; conv => whnf))
      exact ⟨rfl, g, hg, rfl, rfl⟩
  rintro r H ⟨g, hg, hr, rfl⟩
  refine Gh.regs [10, 4, 6, 7, 8, 2] (Gh.of ?_)
  rw [hr]
  clear hr
  have hml : (List.replicate m (40 : UInt8)).length = m := List.length_replicate
  conv => whnf
  refine ALoop.post (i := 2) (fun r H => ∃ g, (List.replicate m 40 ++ exb k t).length ≤ g ∧ keepR [10, 4, 6, 7, 8, 2] r = zK (List.replicate m 40 ++ exb k t) g x t left ∧ H = zH k m (List.replicate m 40 ++ exb k t)) ?_ ?_
  · refine ALoop.ind (ip := false) tok (fun q r H => ∃ j : Nat, j ≤ t.length ∧ q = t.length - j ∧ ∃ g, (List.replicate m 40 ++ exb k (t.take j)).length ≤ g ∧ r = zR 12 j (List.replicate m 40 ++ exb k (t.take j)) g x t left ∧ H = zH k m (List.replicate m 40 ++ exb k (t.take j))) t.length ?_ ?_
    · refine Gh.regs [12, 10, 4, 6, 7, 8, 2] (Gh.of ⟨0, by omega, rfl, g, by simpa [exb] using hg, ?_, ?_⟩)
      · rw [List.take_zero, exb_nil, List.append_nil]; rfl
      · rw [List.take_zero, exb_nil, List.append_nil]
    rintro q r H ⟨j, hj, rfl, g, hg, rfl, rfl⟩
    have hw : IntKind.i64.wrap ((j : Int) + 1) = ((j + 1 : Nat) : Int) := wrap_small (by omega) (by omega)
    by_cases h : ((j : Nat) : Int) < ((sb t).size : Int)
    · have hjt : j < t.length := by rw [sb_size] at h; omega
      have htk : exb k (t.take (j + 1)) = exb k (t.take j) ++ (if t.getD j 0 = 32 then List.replicate k 32 else [t.getD j 0]) := exb_take k t j hjt
      have hxl := exb_len k hk (t.take j)
      rw [List.length_take] at hxl
      have hxl2 : (exb k (t.take j)).length ≤ 7500 := Nat.le_trans hxl (Nat.le_trans (Nat.mul_le_mul hk5 (show min j t.length ≤ 1500 by omega)) (by decide))
      generalize hB : List.replicate m 40 ++ exb k (t.take j) = B at hg
      have hBl : B.length ≤ 7503 := by rw [← hB, List.length_append, hml]; omega
      have hbl := byC_len B
      have hB2 : List.replicate m 40 ++ exb k (t.take (j + 1)) = B ++ (if t.getD j 0 = 32 then List.replicate k 32 else [t.getD j 0]) := by rw [htk, ← hB, List.append_assoc]
      conv => whnf
      repeat (first | (refine acond_t (decide_eq_true h) ?_; conv => whnf) | (refine acond_f (decide_eq_false h) ?_; conv => whnf) | (refine And.intro ⟨by decide, by decide⟩ ?_; conv => whnf) | (refine And.intro (by decide) ?_; conv => whnf))
      refine And.intro ⟨by omega, h⟩ ?_
      conv => whnf
      refine And.intro (by show 0 + B.length * 1 ≤ _; omega) ?_
      conv => whnf
      refine And.intro (Nat.le_of_ble_eq_true rfl) ?_
      conv => whnf
      refine ⟨rfl, by (try dsimp only); omega, by omega, fun g' hg' => ?_⟩
      conv => whnf
      refine ALoop.post (i := 4) (fun r H => ∃ g, (List.replicate m 40 ++ exb k (t.take (j + 1))).length ≤ g ∧ keepR [12, 10, 4, 6, 7, 8, 2] r = zR 12 j (List.replicate m 40 ++ exb k (t.take (j + 1))) g x t left ∧ H = zH k m (List.replicate m 40 ++ exb k (t.take (j + 1)))) ?_ ?_
      · refine ALoop.ind (ip := false) tok (fun q r H => ∃ c : Nat, 1 ≤ c ∧ c ≤ k ∧ q = k - c ∧ (c = 1 ∨ t.getD j 0 = 32) ∧ ∃ g, (B ++ t.getD j 0 :: List.replicate (c - 1) 32).length ≤ g ∧ r = (13, .i .i64 c) :: zR 12 j (B ++ t.getD j 0 :: List.replicate (c - 1) 32) g x t left ∧ H = zH k m (B ++ t.getD j 0 :: List.replicate (c - 1) 32)) (k - 1) ?_ ?_
        · refine Gh.regs [13, 12, 10, 4, 6, 7, 8, 2] (Gh.sel [0, 3] rfl (Gh.of ⟨1, by omega, hk, rfl, .inl rfl, g', by simp; omega, ?_, ?_⟩))
          · exact congrArg (List.cons _) (zR_eq (B := B ++ t.getD j 0 :: List.replicate (1 - 1) 32) rfl (by simp))
          · exact zH_eq B [t.getD j 0] rfl
        rintro q r H ⟨c, hc1, hck, rfl, hc, g, hg, rfl, rfl⟩
        have hwc : IntKind.i64.wrap ((c : Int) + 1) = ((c + 1 : Nat) : Int) := wrap_small (by omega) (by omega)
        by_cases h2 : ((c : Nat) : Int) < (k : Int)
        · by_cases h3 : t.getD j 0 = 32
          · have b1 : ((((t.getD j 0).toNat : Nat) : Int) == 32) = true := by rw [h3]; rfl
            have hC : (B ++ t.getD j 0 :: List.replicate (c + 1 - 1) 32) = (B ++ t.getD j 0 :: List.replicate (c - 1) 32) ++ [32] := by
              obtain ⟨c', rfl⟩ : ∃ c', c = c' + 1 := ⟨c - 1, by omega⟩
              simp [List.replicate_succ']
            have hCl : (B ++ t.getD j 0 :: List.replicate (c - 1) 32).length = B.length + c := by simp; omega
            have hCl2 : (B ++ t.getD j 0 :: List.replicate (c + 1 - 1) 32).length = B.length + c + 1 := by simp; omega
            have hcb := byC_len (B ++ t.getD j 0 :: List.replicate (c - 1) 32)
            generalize hD : (B ++ t.getD j 0 :: List.replicate (c - 1) 32) = D at hC hCl hcb hg
            conv => whnf
            repeat (first | (refine acond_t (decide_eq_true h2) ?_; conv => whnf) | (refine acond_t b1 ?_; conv => whnf) | (refine And.intro ⟨by decide, by decide⟩ ?_; conv => whnf) | (refine And.intro (by decide) ?_; conv => whnf) | (refine And.intro ⟨by omega, h⟩ ?_; conv => whnf))
            refine And.intro (by show 0 + D.length * 1 ≤ _; omega) ?_
            conv => whnf
            refine And.intro (by decide) ?_
            conv => whnf
            refine ⟨rfl, by (try dsimp only); omega, by omega, fun g2 hg2 => ?_⟩
            conv => whnf
            refine Gh.regs [13, 12, 10, 4, 6, 7, 8, 2] (Gh.sel [0, 3] rfl (Gh.of ⟨k - (c + 1), by omega, c + 1, by omega, by omega, rfl, .inr h3, g2, by omega, ?_, ?_⟩))
            · show (13, AV.i IntKind.i64 (IntKind.i64.wrap _)) :: _ = _
              rw [hwc]
              exact congrArg (List.cons _) (zR_eq rfl (by show D.length + 1 = _; omega))
            · exact zH_eq D [32] hC
          · have b1 : ((((t.getD j 0).toNat : Nat) : Int) == 32) = false := by
              rw [beq_eq_false_iff_ne]
              exact fun e => h3 (UInt8.toNat_inj.1 (by show (t.getD j 0).toNat = 32; omega))
            have hc1 : c = 1 := by rcases hc with h | h; exact h; exact absurd h h3
            subst hc1
            rw [if_neg h3] at hB2
            rw [hB2]
            conv => whnf
            repeat (first | (refine acond_t (decide_eq_true h2) ?_; conv => whnf) | (refine acond_f b1 ?_; conv => whnf) | (refine And.intro ⟨by decide, by decide⟩ ?_; conv => whnf) | (refine And.intro (by decide) ?_; conv => whnf) | (refine And.intro ⟨by omega, h⟩ ?_; conv => whnf))
            exact ⟨rfl, g, hg, rfl, rfl⟩
        · have hck2 : c = k := by omega
          subst hck2
          have hE : (List.replicate m 40 ++ exb c (t.take (j + 1))) = (B ++ t.getD j 0 :: List.replicate (c - 1) 32) := by
            rw [hB2]
            by_cases h3 : t.getD j 0 = 32
            · rw [if_pos h3, h3]
              obtain ⟨c', rfl⟩ : ∃ c', c = c' + 1 := ⟨c - 1, by omega⟩
              rfl
            · rw [if_neg h3]
              have : c = 1 := by rcases hc with h | h; exact h; exact absurd h h3
              subst this; rfl
          rw [hE]
          conv => whnf
          repeat (first | (refine acond_f (decide_eq_false h2) ?_; conv => whnf) | (refine And.intro ⟨by decide, by decide⟩ ?_; conv => whnf) | (refine And.intro (by decide) ?_; conv => whnf))
          exact ⟨rfl, g, hg, rfl, rfl⟩
      rintro r H ⟨g, hg, hr, rfl⟩
      refine Gh.regs [12, 10, 4, 6, 7, 8, 2] (Gh.of ?_)
      rw [hr]
      clear hr
      conv => whnf
      refine Gh.regs [12, 10, 4, 6, 7, 8, 2] (Gh.of ⟨t.length - (j + 1), by omega, j + 1, by omega, rfl, g, hg, ?_, rfl⟩)
      show (12, AV.i IntKind.i64 (IntKind.i64.wrap _)) :: _ = _
      rw [hw]; rfl
    · have : j = t.length := by rw [sb_size] at h; omega
      subst this
      conv => whnf
      repeat (first | (refine acond_t (decide_eq_true h) ?_; conv => whnf) | (refine acond_f (decide_eq_false h) ?_; conv => whnf) | (refine And.intro ⟨by decide, by decide⟩ ?_; conv => whnf) | (refine And.intro (by decide) ?_; conv => whnf))
      rw [List.take_length] at hg ⊢
      exact ⟨rfl, g, hg, rfl, rfl⟩
  rintro r H ⟨g, hg, hr, rfl⟩
  refine Gh.regs [10, 4, 6, 7, 8, 2] (Gh.of ?_)
  rw [hr]
  clear hr
  have hxl := exb_len k hk t
  have hxl2 : (exb k t).length ≤ 7500 := Nat.le_trans hxl (Nat.le_trans (Nat.mul_le_mul hk5 hl) (by decide))
  generalize hB : List.replicate m 40 ++ exb k t = B at hg
  have hBl : B.length ≤ 7503 := by rw [← hB, List.length_append, hml]; omega
  conv => whnf
  refine ALoop.post (i := 6) (fun r H => ∃ g, (B ++ tailS m).length ≤ g ∧ keepR [10, 4, 6, 7, 8, 2] r = zK (B ++ tailS m) g x t left ∧ H = zH k m (B ++ tailS m)) ?_ ?_
  · refine ALoop.ind (ip := false) tok (fun q r H => ∃ i : Nat, i ≤ m ∧ q = m - i ∧ ∃ g, (B ++ tailS i).length ≤ g ∧ r = zR 14 i (B ++ tailS i) g x t left ∧ H = zH k m (B ++ tailS i)) m ?_ ?_
    · refine Gh.regs [14, 10, 4, 6, 7, 8, 2] (Gh.of ⟨0, by omega, rfl, g, by simpa [tailS] using hg, ?_, ?_⟩)
      · rw [tailS, List.append_nil]; rfl
      · rw [tailS, List.append_nil]
    rintro q r H ⟨i, hi, rfl, gi, hgi, rfl, rfl⟩
    have hw : IntKind.i64.wrap ((i : Int) + 1) = ((i + 1 : Nat) : Int) := wrap_small (by omega) (by omega)
    have htl := tailS_len i
    have hDl : (B ++ tailS i).length = B.length + 2 * i := by rw [List.length_append, htl]
    have hD2 : B ++ tailS (i + 1) = (B ++ tailS i) ++ [32, 41] := by rw [tailS, List.append_assoc]
    have hD2l : (B ++ tailS (i + 1)).length = B.length + 2 * i + 2 := by rw [hD2, List.length_append, hDl]; rfl
    by_cases h : ((i : Nat) : Int) < (m : Int)
    · generalize hD : B ++ tailS i = D at hgi hDl hD2
      have hbl := byC_len D
      conv => whnf
      repeat (first | (refine acond_t (decide_eq_true h) ?_; conv => whnf) | (refine acond_f (decide_eq_false h) ?_; conv => whnf) | (refine And.intro ⟨by decide, by decide⟩ ?_; conv => whnf) | (refine And.intro (by decide) ?_; conv => whnf))
      refine And.intro (by show 0 + D.length * 1 ≤ _; omega) ?_
      conv => whnf
      refine And.intro (by decide) ?_
      conv => whnf
      refine ⟨rfl, by (try dsimp only); omega, by omega, fun g' hg' => ?_⟩
      conv => whnf
      refine Gh.regs [14, 10, 4, 6, 7, 8, 2] (Gh.sel [0, 3] rfl (Gh.of ⟨m - (i + 1), by omega, i + 1, by omega, rfl, g', by omega, ?_, ?_⟩))
      · exact zR_eq hw (by show D.length + 2 = _; omega)
      · exact zH_eq D [32, 41] hD2
    · have : i = m := by omega
      subst this
      conv => whnf
      repeat (first | (refine acond_t (decide_eq_true h) ?_; conv => whnf) | (refine acond_f (decide_eq_false h) ?_; conv => whnf) | (refine And.intro ⟨by decide, by decide⟩ ?_; conv => whnf) | (refine And.intro (by decide) ?_; conv => whnf))
      exact ⟨rfl, gi, hgi, rfl, rfl⟩
  rintro r H ⟨g, hg, hr, rfl⟩
  refine Gh.regs [10, 4, 6, 7, 8, 2] (Gh.of ?_)
  rw [hr]
  clear hr
  have hS : B ++ tailS m = blankS m k t := by rw [← hB]; rfl
  rw [hS]
  have hSl := blankS_len m k hk t
  have hSl2 : (blankS m k t).length ≤ 7600 := by rw [← hS, List.length_append, tailS_len]; omega
  have hbS := byC_len (blankS m k t)
  have hp0 := parse_spec (blankS m k t) (by omega)
  have hp : ACall Tryd.prog 10 [.s (strOf (byN (blankS m k t)))] [] fun R H => R = .ret (.tup [(parseE (blankS m k t)).1.av, .i .i64 (parseE (blankS m k t)).2.1, .i .i64 (parseE (blankS m k t)).2.2]) ∧ H = [] := by rw [strOf_by]; exact hp0
  have hxx := equal_spec x x
  rw [show x.same x = true from Ex.same_iff.2 rfl] at hxx
  have hbp : d < 60 → parseE (blankS m k t) = (x, 0, 0) := fun hd => by
    rw [g3] at hSl2 ⊢
    exact blank_parse g1 g2 (by omega) hm hk (by omega)
  have htv : ∀ (φ : Nat → Sb) (x : Ex) (a b : Int), sub φ (.tup [x.av, .i .i64 a, .i .i64 b]) = .tup [x.av, .i .i64 a, .i .i64 b] := fun φ x a b => by show AV.tup [sub φ (Ex.av _), _, _] = _; rw [sub_av]; rfl
  by_cases hd : ((d : Nat) : Int) < 60
  · rw [hbp (by omega)] at hp
    by_cases q0 : left < 0
    · conv => whnf
      refine And.intro (by show 0 + (blankS m k t).length * 1 ≤ _; omega) ?_
      conv => whnf
      refine ⟨byN (blankS m k t), byC_all _, ?_⟩
      conv => whnf
      refine callE (fun _ => rfl) hp (fun φ => htv φ _ _ _) ?_
      conv => whnf
      refine callE (subs_av · _) dp (fun _ => rfl) ?_
      conv => whnf
      repeat (first | (refine acond_t (decide_eq_true hd) ?_; conv => whnf) | (refine And.intro ⟨by omega, by omega⟩ ?_; conv => whnf))
      refine callE (subs_av2 · _ _) hxx (fun _ => rfl) ?_
      conv => whnf
      repeat (first | (refine acond_t (decide_eq_true hd) ?_; conv => whnf) | (refine And.intro ⟨by omega, by omega⟩ ?_; conv => whnf))
      repeat (first | (refine acond_t (decide_eq_true q0) ?_; conv => whnf) | (refine And.intro ⟨by omega, by omega⟩ ?_; conv => whnf))
      refine callE (fun _ => rfl) aw (fun _ => rfl) ?_
      conv => whnf
      exact GhR.sel [] rfl (GhR.of ⟨rfl, rfl⟩)
    by_cases q1 : left ≥ ((sb t).size : Int)
    · conv => whnf
      refine And.intro (by show 0 + (blankS m k t).length * 1 ≤ _; omega) ?_
      conv => whnf
      refine ⟨byN (blankS m k t), byC_all _, ?_⟩
      conv => whnf
      refine callE (fun _ => rfl) hp (fun φ => htv φ _ _ _) ?_
      conv => whnf
      refine callE (subs_av · _) dp (fun _ => rfl) ?_
      conv => whnf
      repeat (first | (refine acond_t (decide_eq_true hd) ?_; conv => whnf) | (refine And.intro ⟨by omega, by omega⟩ ?_; conv => whnf))
      refine callE (subs_av2 · _ _) hxx (fun _ => rfl) ?_
      conv => whnf
      repeat (first | (refine acond_t (decide_eq_true hd) ?_; conv => whnf) | (refine And.intro ⟨by omega, by omega⟩ ?_; conv => whnf))
      repeat (first | (refine acond_f (decide_eq_false q0) ?_; conv => whnf) | (refine acond_t (decide_eq_true q1) ?_; conv => whnf) | (refine And.intro ⟨by omega, by omega⟩ ?_; conv => whnf))
      refine callE (fun _ => rfl) aw (fun _ => rfl) ?_
      conv => whnf
      exact GhR.sel [] rfl (GhR.of ⟨rfl, rfl⟩)
    have hsz := sb_size t
    have hp2 := parse_spec (t.take left.toNat) (by rw [List.length_take]; omega)
    have hp2 : ACall Tryd.prog 10 [.s ((sb t).extract 0 left.toNat)] [] fun R H => R = .ret (.tup [(parseE (t.take left.toNat)).1.av, .i .i64 (parseE (t.take left.toNat)).2.1, .i .i64 (parseE (t.take left.toNat)).2.2]) ∧ H = [] := by
      rw [sb_extract, List.drop_zero, Nat.sub_zero]; exact hp2
    have hu := parse_use (t.take left.toNat)
    have hpart := fun h : parseE (t.take left.toNat) = (x, 0, 0) => part_parse g1 (n := left.toNat) (by rw [← g3]; omega) (by rw [← g3]; exact h)
    obtain ⟨v, p, e2, hv⟩ : ∃ v p e2, parseE (t.take left.toNat) = (v, p, e2) := ⟨_, _, _, rfl⟩
    rw [hv] at hp2 hu hpart
    by_cases f0 : e2 = 0
    · subst f0
      obtain rfl := hu.2.2 v p rfl
      have heq := equal_spec v x
      by_cases hvx : v = x
      · subst hvx
        rw [show v.same v = true from Ex.same_iff.2 rfl] at heq
        obtain ⟨r1, r2⟩ := hpart rfl
        rw [← g3] at r2
        have r3 : left > 0 := by omega
        have r4 : ((((t.getD left.toNat 0).toNat : Nat) : Int) == 32) = true := by rw [r2]; rfl
        conv => whnf
        refine And.intro (by show 0 + (blankS m k t).length * 1 ≤ _; omega) ?_
        conv => whnf
        refine ⟨byN (blankS m k t), byC_all _, ?_⟩
        conv => whnf
        refine callE (fun _ => rfl) hp (fun φ => htv φ _ _ _) ?_
        conv => whnf
        refine callE (subs_av · _) dp (fun _ => rfl) ?_
        conv => whnf
        repeat (first | (refine acond_t (decide_eq_true hd) ?_; conv => whnf) | (refine And.intro ⟨by omega, by omega⟩ ?_; conv => whnf))
        refine callE (subs_av2 · _ _) hxx (fun _ => rfl) ?_
        conv => whnf
        repeat (first | (refine acond_t (decide_eq_true hd) ?_; conv => whnf) | (refine And.intro ⟨by omega, by omega⟩ ?_; conv => whnf))
        repeat (first | (refine acond_f (decide_eq_false q0) ?_; conv => whnf) | (refine acond_f (decide_eq_false q1) ?_; conv => whnf) | (refine And.intro ⟨by omega, by omega⟩ ?_; conv => whnf))
        refine callE (fun _ => rfl) hp2 (fun φ => htv φ _ _ _) ?_
        conv => whnf
        refine callE (subs_av2 · _ _) heq (fun _ => rfl) ?_
        conv => whnf
        repeat (first | (refine acond_t (decide_eq_true r3) ?_; conv => whnf) | (refine acond_t (r4) ?_; conv => whnf) | (refine And.intro ⟨by omega, by omega⟩ ?_; conv => whnf))
        refine callE (fun _ => rfl) aw (fun _ => rfl) ?_
        conv => whnf
        repeat (first | (refine acond_t (decide_eq_true r3) ?_; conv => whnf) | (refine acond_t (r4) ?_; conv => whnf) | (refine And.intro ⟨by omega, by omega⟩ ?_; conv => whnf))
        exact GhR.sel [] rfl (GhR.of ⟨rfl, rfl⟩)
      · rw [show v.same x = false from (by cases h : v.same x with | false => rfl | true => exact absurd (Ex.same_iff.1 h) hvx)] at heq
        conv => whnf
        refine And.intro (by show 0 + (blankS m k t).length * 1 ≤ _; omega) ?_
        conv => whnf
        refine ⟨byN (blankS m k t), byC_all _, ?_⟩
        conv => whnf
        refine callE (fun _ => rfl) hp (fun φ => htv φ _ _ _) ?_
        conv => whnf
        refine callE (subs_av · _) dp (fun _ => rfl) ?_
        conv => whnf
        repeat (first | (refine acond_t (decide_eq_true hd) ?_; conv => whnf) | (refine And.intro ⟨by omega, by omega⟩ ?_; conv => whnf))
        refine callE (subs_av2 · _ _) hxx (fun _ => rfl) ?_
        conv => whnf
        repeat (first | (refine acond_t (decide_eq_true hd) ?_; conv => whnf) | (refine And.intro ⟨by omega, by omega⟩ ?_; conv => whnf))
        repeat (first | (refine acond_f (decide_eq_false q0) ?_; conv => whnf) | (refine acond_f (decide_eq_false q1) ?_; conv => whnf) | (refine And.intro ⟨by omega, by omega⟩ ?_; conv => whnf))
        refine callE (fun _ => rfl) hp2 (fun φ => htv φ _ _ _) ?_
        conv => whnf
        refine callE (subs_av2 · _ _) heq (fun _ => rfl) ?_
        conv => whnf
        refine callE (fun _ => rfl) aw (fun _ => rfl) ?_
        conv => whnf
        exact GhR.sel [] rfl (GhR.of ⟨rfl, rfl⟩)
    · obtain ⟨rfl, hpl⟩ := hu.2.1 v p e2 rfl f0
      have r1 : (e2 != 0) = true := by simpa using f0
      have r2 : decide (((p : Nat) : Int) ≤ left) = true := decide_eq_true (by rw [List.length_take] at hpl; omega)
      conv => whnf
      refine And.intro (by show 0 + (blankS m k t).length * 1 ≤ _; omega) ?_
      conv => whnf
      refine ⟨byN (blankS m k t), byC_all _, ?_⟩
      conv => whnf
      refine callE (fun _ => rfl) hp (fun φ => htv φ _ _ _) ?_
      conv => whnf
      refine callE (subs_av · _) dp (fun _ => rfl) ?_
      conv => whnf
      repeat (first | (refine acond_t (decide_eq_true hd) ?_; conv => whnf) | (refine And.intro ⟨by omega, by omega⟩ ?_; conv => whnf))
      refine callE (subs_av2 · _ _) hxx (fun _ => rfl) ?_
      conv => whnf
      repeat (first | (refine acond_t (decide_eq_true hd) ?_; conv => whnf) | (refine And.intro ⟨by omega, by omega⟩ ?_; conv => whnf))
      repeat (first | (refine acond_f (decide_eq_false q0) ?_; conv => whnf) | (refine acond_f (decide_eq_false q1) ?_; conv => whnf) | (refine And.intro ⟨by omega, by omega⟩ ?_; conv => whnf))
      refine callE (fun _ => rfl) hp2 (fun φ => htv φ _ _ _) ?_
      conv => whnf
      repeat (first | (refine acond_t (r1) ?_; conv => whnf) | (refine acond_t (r2) ?_; conv => whnf) | (refine And.intro ⟨by omega, by omega⟩ ?_; conv => whnf))
      refine callE (fun _ => rfl) aw (fun _ => rfl) ?_
      conv => whnf
      repeat (first | (refine acond_t (r1) ?_; conv => whnf) | (refine acond_t (r2) ?_; conv => whnf) | (refine And.intro ⟨by omega, by omega⟩ ?_; conv => whnf))
      exact GhR.sel [] rfl (GhR.of ⟨rfl, rfl⟩)
  · generalize parseE (blankS m k t) = PE at hp
    by_cases q0 : left < 0
    · conv => whnf
      refine And.intro (by show 0 + (blankS m k t).length * 1 ≤ _; omega) ?_
      conv => whnf
      refine ⟨byN (blankS m k t), byC_all _, ?_⟩
      conv => whnf
      refine callE (fun _ => rfl) hp (fun φ => htv φ _ _ _) ?_
      conv => whnf
      refine callE (subs_av · _) dp (fun _ => rfl) ?_
      conv => whnf
      repeat (first | (refine acond_f (decide_eq_false hd) ?_; conv => whnf) | (refine And.intro ⟨by omega, by omega⟩ ?_; conv => whnf))
      repeat (first | (refine acond_t (decide_eq_true q0) ?_; conv => whnf) | (refine And.intro ⟨by omega, by omega⟩ ?_; conv => whnf))
      refine callE (fun _ => rfl) aw (fun _ => rfl) ?_
      conv => whnf
      exact GhR.sel [] rfl (GhR.of ⟨rfl, rfl⟩)
    by_cases q1 : left ≥ ((sb t).size : Int)
    · conv => whnf
      refine And.intro (by show 0 + (blankS m k t).length * 1 ≤ _; omega) ?_
      conv => whnf
      refine ⟨byN (blankS m k t), byC_all _, ?_⟩
      conv => whnf
      refine callE (fun _ => rfl) hp (fun φ => htv φ _ _ _) ?_
      conv => whnf
      refine callE (subs_av · _) dp (fun _ => rfl) ?_
      conv => whnf
      repeat (first | (refine acond_f (decide_eq_false hd) ?_; conv => whnf) | (refine And.intro ⟨by omega, by omega⟩ ?_; conv => whnf))
      repeat (first | (refine acond_f (decide_eq_false q0) ?_; conv => whnf) | (refine acond_t (decide_eq_true q1) ?_; conv => whnf) | (refine And.intro ⟨by omega, by omega⟩ ?_; conv => whnf))
      refine callE (fun _ => rfl) aw (fun _ => rfl) ?_
      conv => whnf
      exact GhR.sel [] rfl (GhR.of ⟨rfl, rfl⟩)
    have hsz := sb_size t
    have hp2 := parse_spec (t.take left.toNat) (by rw [List.length_take]; omega)
    have hp2 : ACall Tryd.prog 10 [.s ((sb t).extract 0 left.toNat)] [] fun R H => R = .ret (.tup [(parseE (t.take left.toNat)).1.av, .i .i64 (parseE (t.take left.toNat)).2.1, .i .i64 (parseE (t.take left.toNat)).2.2]) ∧ H = [] := by
      rw [sb_extract, List.drop_zero, Nat.sub_zero]; exact hp2
    have hu := parse_use (t.take left.toNat)
    have hpart := fun h : parseE (t.take left.toNat) = (x, 0, 0) => part_parse g1 (n := left.toNat) (by rw [← g3]; omega) (by rw [← g3]; exact h)
    obtain ⟨v, p, e2, hv⟩ : ∃ v p e2, parseE (t.take left.toNat) = (v, p, e2) := ⟨_, _, _, rfl⟩
    rw [hv] at hp2 hu hpart
    by_cases f0 : e2 = 0
    · subst f0
      obtain rfl := hu.2.2 v p rfl
      have heq := equal_spec v x
      by_cases hvx : v = x
      · subst hvx
        rw [show v.same v = true from Ex.same_iff.2 rfl] at heq
        obtain ⟨r1, r2⟩ := hpart rfl
        rw [← g3] at r2
        have r3 : left > 0 := by omega
        have r4 : ((((t.getD left.toNat 0).toNat : Nat) : Int) == 32) = true := by rw [r2]; rfl
        conv => whnf
        refine And.intro (by show 0 + (blankS m k t).length * 1 ≤ _; omega) ?_
        conv => whnf
        refine ⟨byN (blankS m k t), byC_all _, ?_⟩
        conv => whnf
        refine callE (fun _ => rfl) hp (fun φ => htv φ _ _ _) ?_
        conv => whnf
        refine callE (subs_av · _) dp (fun _ => rfl) ?_
        conv => whnf
        repeat (first | (refine acond_f (decide_eq_false hd) ?_; conv => whnf) | (refine And.intro ⟨by omega, by omega⟩ ?_; conv => whnf))
        repeat (first | (refine acond_f (decide_eq_false q0) ?_; conv => whnf) | (refine acond_f (decide_eq_false q1) ?_; conv => whnf) | (refine And.intro ⟨by omega, by omega⟩ ?_; conv => whnf))
        refine callE (fun _ => rfl) hp2 (fun φ => htv φ _ _ _) ?_
        conv => whnf
        refine callE (subs_av2 · _ _) heq (fun _ => rfl) ?_
        conv => whnf
        repeat (first | (refine acond_t (decide_eq_true r3) ?_; conv => whnf) | (refine acond_t (r4) ?_; conv => whnf) | (refine And.intro ⟨by omega, by omega⟩ ?_; conv => whnf))
        refine callE (fun _ => rfl) aw (fun _ => rfl) ?_
        conv => whnf
        repeat (first | (refine acond_t (decide_eq_true r3) ?_; conv => whnf) | (refine acond_t (r4) ?_; conv => whnf) | (refine And.intro ⟨by omega, by omega⟩ ?_; conv => whnf))
        exact GhR.sel [] rfl (GhR.of ⟨rfl, rfl⟩)
      · rw [show v.same x = false from (by cases h : v.same x with | false => rfl | true => exact absurd (Ex.same_iff.1 h) hvx)] at heq
        conv => whnf
        refine And.intro (by show 0 + (blankS m k t).length * 1 ≤ _; omega) ?_
        conv => whnf
        refine ⟨byN (blankS m k t), byC_all _, ?_⟩
        conv => whnf
        refine callE (fun _ => rfl) hp (fun φ => htv φ _ _ _) ?_
        conv => whnf
        refine callE (subs_av · _) dp (fun _ => rfl) ?_
        conv => whnf
        repeat (first | (refine acond_f (decide_eq_false hd) ?_; conv => whnf) | (refine And.intro ⟨by omega, by omega⟩ ?_; conv => whnf))
        repeat (first | (refine acond_f (decide_eq_false q0) ?_; conv => whnf) | (refine acond_f (decide_eq_false q1) ?_; conv => whnf) | (refine And.intro ⟨by omega, by omega⟩ ?_; conv => whnf))
        refine callE (fun _ => rfl) hp2 (fun φ => htv φ _ _ _) ?_
        conv => whnf
        refine callE (subs_av2 · _ _) heq (fun _ => rfl) ?_
        conv => whnf
        refine callE (fun _ => rfl) aw (fun _ => rfl) ?_
        conv => whnf
        exact GhR.sel [] rfl (GhR.of ⟨rfl, rfl⟩)
    · obtain ⟨rfl, hpl⟩ := hu.2.1 v p e2 rfl f0
      have r1 : (e2 != 0) = true := by simpa using f0
      have r2 : decide (((p : Nat) : Int) ≤ left) = true := decide_eq_true (by rw [List.length_take] at hpl; omega)
      conv => whnf
      refine And.intro (by show 0 + (blankS m k t).length * 1 ≤ _; omega) ?_
      conv => whnf
      refine ⟨byN (blankS m k t), byC_all _, ?_⟩
      conv => whnf
      refine callE (fun _ => rfl) hp (fun φ => htv φ _ _ _) ?_
      conv => whnf
      refine callE (subs_av · _) dp (fun _ => rfl) ?_
      conv => whnf
      repeat (first | (refine acond_f (decide_eq_false hd) ?_; conv => whnf) | (refine And.intro ⟨by omega, by omega⟩ ?_; conv => whnf))
      repeat (first | (refine acond_f (decide_eq_false q0) ?_; conv => whnf) | (refine acond_f (decide_eq_false q1) ?_; conv => whnf) | (refine And.intro ⟨by omega, by omega⟩ ?_; conv => whnf))
      refine callE (fun _ => rfl) hp2 (fun φ => htv φ _ _ _) ?_
      conv => whnf
      repeat (first | (refine acond_t (r1) ?_; conv => whnf) | (refine acond_t (r2) ?_; conv => whnf) | (refine And.intro ⟨by omega, by omega⟩ ?_; conv => whnf))
      refine callE (fun _ => rfl) aw (fun _ => rfl) ?_
      conv => whnf
      repeat (first | (refine acond_t (r1) ?_; conv => whnf) | (refine acond_t (r2) ?_; conv => whnf) | (refine And.intro ⟨by omega, by omega⟩ ?_; conv => whnf))
      exact GhR.sel [] rfl (GhR.of ⟨rfl, rfl⟩)
end Go.AK
namespace Go.AK
open Go Go.RowKit Go.Proofs
set_option linter.unusedVariables false
set_option maxRecDepth 100000
theorem exprBlanks_all (l : List Nod) (x : Ex) (t : Str) (e : Int) (d : Nat) (s : OpS l x t e d) (k m left : Int) (hleft : -9223372036854775808 ≤ left ∧ left ≤ 9223372036854775807) :
    ACall Tryd.prog 6 [rowAV l, .agg [.i .i64 k, .i .i64 m], .i .i64 left] [] fun R H => R = .ret (.b true) ∧ H = [] := by
  have aw := awake_spec
  have fw := s.few
  by_cases hgo : fewB l = true ∧ 1 ≤ k ∧ k ≤ 5 ∧ 0 ≤ m ∧ m ≤ 3
  · obtain ⟨hf, h1, h2, h3, h4⟩ := hgo
    obtain ⟨k, rfl⟩ : ∃ n : Nat, k = (n : Int) := ⟨k.toNat, by omega⟩
    obtain ⟨m, rfl⟩ : ∃ n : Nat, m = (n : Int) := ⟨m.toNat, by omega⟩
    by_cases hgo : e = 0 ∧ t.length ≤ 1500
    · exact exprBlanks_spec l x t e d s k m (by omega) (by omega) (by omega) left hleft hf hgo.1 hgo.2
    rw [hf] at fw
    have tr := s.tree hf
    have tx := s.text hf
    have c1 : decide (((k : Nat) : Int) < 1) = false := decide_eq_false (by omega)
    have c2 : decide (((k : Nat) : Int) > 5) = false := decide_eq_false (by omega)
    have c3 : decide (((m : Nat) : Int) < 0) = false := decide_eq_false (by omega)
    have c4 : decide (((m : Nat) : Int) > 3) = false := decide_eq_false (by omega)
    refine ACall.gh ?_
    refine ACall.enter tok false Tryd.func6 rfl rfl rfl (AW_sound (ip := false) tok _ _ _ _ ?_)
    conv => whnf
    refine callE (subs_row · l) fw (fun _ => rfl) ?_
    conv => whnf
    repeat (first | (refine acond_f c1 ?_; conv => whnf) | (refine acond_f c2 ?_; conv => whnf) | (refine acond_f c3 ?_; conv => whnf) | (refine acond_f c4 ?_; conv => whnf) | (refine And.intro ⟨by decide, by decide⟩ ?_; conv => whnf) | (refine And.intro (by decide) ?_; conv => whnf))
    refine callE (subs_row · l) tr (sub_av · x) ?_
    conv => whnf
    by_cases he : e = 0
    · subst he
      have c5 : decide (((sb t).size : Int) > 1500) = true := decide_eq_true (by rw [sb_size]; have : ¬ t.length ≤ 1500 := fun h => hgo ⟨rfl, h⟩; omega)
      refine callE (subs_av · x) tx (fun _ => rfl) ?_
      conv => whnf
      repeat (first | (refine acond_t (c5) ?_; conv => whnf))
      refine callE (fun _ => rfl) aw (fun _ => rfl) ?_
      conv => whnf
      repeat (first | (refine acond_t (c5) ?_; conv => whnf))
      exact GhR.sel [] rfl (GhR.of ⟨rfl, rfl⟩)
    · have b1 : (e != 0) = true := by simpa using he
      have b2 : (e == 0) = false := by simpa using he
      rw [s.bad hf he] at tx
      refine callE (subs_av · x) tx (fun _ => rfl) ?_
      conv => whnf
      repeat (first | (refine acond_t (b1) ?_; conv => whnf) | (refine acond_f (b2) ?_; conv => whnf))
      refine callE (fun _ => rfl) aw (fun _ => rfl) ?_
      conv => whnf
      repeat (first | (refine acond_t (b1) ?_; conv => whnf) | (refine acond_f (b2) ?_; conv => whnf))
      exact GhR.sel [] rfl (GhR.of ⟨rfl, rfl⟩)
  · refine ACall.gh ?_
    refine ACall.enter tok false Tryd.func6 rfl rfl rfl (AW_sound (ip := false) tok _ _ _ _ ?_)
    cases hf : fewB l with
    | false =>
      rw [hf] at fw
      conv => whnf
      refine callE (subs_row · l) fw (fun _ => rfl) ?_
      conv => whnf
      refine callE (fun _ => rfl) aw (fun _ => rfl) ?_
      conv => whnf
      exact GhR.sel [] rfl (GhR.of ⟨rfl, rfl⟩)
    | true =>
      rw [hf] at fw
      conv => whnf
      refine callE (subs_row · l) fw (fun _ => rfl) ?_
      conv => whnf
      by_cases h1 : k < 1
      · repeat (first | (refine acond_t (decide_eq_true h1) ?_; conv => whnf) | (refine And.intro ⟨by decide, by decide⟩ ?_; conv => whnf) | (refine And.intro (by decide) ?_; conv => whnf))
        refine callE (fun _ => rfl) aw (fun _ => rfl) ?_
        conv => whnf
        exact GhR.sel [] rfl (GhR.of ⟨rfl, rfl⟩)
      by_cases h2 : k > 5
      · repeat (first | (refine acond_f (decide_eq_false h1) ?_; conv => whnf) | (refine acond_t (decide_eq_true h2) ?_; conv => whnf) | (refine And.intro ⟨by decide, by decide⟩ ?_; conv => whnf) | (refine And.intro (by decide) ?_; conv => whnf))
        refine callE (fun _ => rfl) aw (fun _ => rfl) ?_
        conv => whnf
        exact GhR.sel [] rfl (GhR.of ⟨rfl, rfl⟩)
      by_cases h3 : m < 0
      · repeat (first | (refine acond_f (decide_eq_false h1) ?_; conv => whnf) | (refine acond_f (decide_eq_false h2) ?_; conv => whnf) | (refine acond_t (decide_eq_true h3) ?_; conv => whnf) | (refine And.intro ⟨by decide, by decide⟩ ?_; conv => whnf) | (refine And.intro (by decide) ?_; conv => whnf))
        refine callE (fun _ => rfl) aw (fun _ => rfl) ?_
        conv => whnf
        exact GhR.sel [] rfl (GhR.of ⟨rfl, rfl⟩)
      have h4 : m > 3 := by
        have : ¬ m ≤ 3 := fun h => hgo ⟨hf, by omega, by omega, by omega, h⟩
        omega
      repeat (first | (refine acond_f (decide_eq_false h1) ?_; conv => whnf) | (refine acond_f (decide_eq_false h2) ?_; conv => whnf) | (refine acond_f (decide_eq_false h3) ?_; conv => whnf) | (refine acond_t (decide_eq_true h4) ?_; conv => whnf) | (refine And.intro ⟨by decide, by decide⟩ ?_; conv => whnf) | (refine And.intro (by decide) ?_; conv => whnf))
      refine callE (fun _ => rfl) aw (fun _ => rfl) ?_
      conv => whnf
      exact GhR.sel [] rfl (GhR.of ⟨rfl, rfl⟩)
theorem exprBlanks_top (l : List Nod) (hl : l.length ≤ maxLen) (okl : ∀ a ∈ l, a.ok) (F : Int × Int) (wF : (-9223372036854775808 ≤ F.1 ∧ F.1 ≤ 9223372036854775807) ∧ (-9223372036854775808 ≤ F.2 ∧ F.2 ≤ 9223372036854775807)) (left : Int) (wl : -9223372036854775808 ≤ left ∧ left ≤ 9223372036854775807) :
    ACall Tryd.prog 6 [.rs (nods l) 0 6 l.length, .agg [.i .i64 F.1, .i .i64 F.2], .i .i64 left] [] fun R H => R = .ret (.b true) ∧ H = [] :=
  exprBlanks_all l _ _ _ _ (opS_of ⟨hl, okl⟩) _ _ _ wl
end Go.AK
