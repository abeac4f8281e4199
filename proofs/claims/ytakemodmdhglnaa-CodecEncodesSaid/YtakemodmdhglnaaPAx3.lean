/- Functions of the program, in plain Lean, and their walks (printed; half the indent). Conditions: none. -/
-- PRINTED by print.py (a twelfth state) out of the translation. Not trusted: Lean checks it.
import Derived.Test.YtakemodmdhglnaaPAx0
import Derived.Test.YtakemodmdhglnaaPAx2
namespace Go.Proofs.Ytakemodmdhglnaa.PA
open Go.RowKit Go.Proofs.YtakemodmdhglnaaW.PrintWords Go.Proofs.YtakemodmdhglnaaW.PrintLast Go.Proofs.YtakemodmdhglnaaW.PrintMore
attribute [local go_sem] zqbb zqaz zqbd zqbe zqax zqay zqba zqbc   -- for this text's walks alone
set_option linter.unusedVariables false
set_option linter.unusedSimpArgs false

/-! HAND frame_Check: function 33 -/
def frame_Check.f (a0_0 : Int) (a0_1 : Bool) (a0_2 : Bool) (a0_3 : Int) (a0_4 : Int) (a0_5 : Int) (a0_6 : Int) (a0_7 : Int) (a0_8 : Int) (a0_9 : Int) (a0_10 : Int) (a0_11 : Int) : Option Int :=
 if a0_0 < 0 ∨ a0_0 > (if a0_1 = true then 536870911 else 2047) ∨ a0_3 < 0 ∨ a0_3 > 8 then some 14
 else if ([a0_4, a0_5, a0_6, a0_7, a0_8, a0_9, a0_10, a0_11].drop (if a0_2 = true then 0 else a0_3.toNat)).all (fun x => decide (x ≤ 0)) = true then some 0 else some 14
theorem max_l0 (l : List Int) (hl : l.length ≤ 1000) (d : Nat) : ∀ (k i : Nat) (m : Int), l.length - i = d → i ≤ l.length → d < k → slices_Max_byte_byte.l0 k l m (i : Int) = some ((l.drop i).foldl mx m) := by
 induction d with
 | zero =>
  intro k i m hd hi hk
  obtain ⟨k, rfl⟩ : ∃ m, k = m + 1 := ⟨k - 1, by omega⟩
  simp only [slices_Max_byte_byte.l0]
  rw [if_neg (by omega), List.drop_eq_nil_of_le (by omega)]
  rfl
 | succ d ih =>
  intro k i m hd hi hk
  obtain ⟨k, rfl⟩ : ∃ m, k = m + 1 := ⟨k - 1, by omega⟩
  have hi' : i < l.length := by omega
  simp only [slices_Max_byte_byte.l0]
  rw [if_pos (by omega), if_pos (by omega), show wrap64 ((i : Int) + 1) = ((i + 1 : Nat) : Int) by unfold wrap64; omega, ih k (i + 1) _ (by omega) (by omega) (by omega), List.drop_eq_getElem_cons hi', List.foldl_cons]
  simp [rd, List.getD_eq_getElem?_getD, List.getElem?_eq_getElem hi']
theorem foldl_mx (t : List Int) : ∀ m : Int, t.foldl mx m > 0 ↔ ¬ (m ≤ 0 ∧ t.all (fun x => decide (x ≤ 0)) = true) := by
 induction t with
 | nil => intro m; simp
 | cons x t ih =>
  intro m
  rw [List.foldl_cons, ih]
  simp only [List.all_cons, Bool.and_eq_true, decide_eq_true_eq, mx]
  constructor
  ·
   rintro h ⟨h1, h2, h3⟩
   exact h ⟨by split <;> omega, h3⟩
  ·
   rintro h ⟨h1, h2⟩
   refine h ⟨?_, ?_, h2⟩ <;> (split at h1 <;> omega)
theorem max_tail (t : List Int) (ht : t.length ≤ 100) : slices_Max_byte_byte.f 200 (0 :: t) = some (t.foldl mx 0) := by
 unfold slices_Max_byte_byte.f
 have e : (0 :: t).length = t.length + 1 := rfl
 rw [if_neg (by omega), if_pos (by omega)]
 have := max_l0 (0 :: t) (by omega) ((0 :: t).length - 1) 200 1 (rd (0 :: t) 0) rfl (by omega) (by omega)
 exact this
/-- What an array's cells hold from a place on, as a row that is read. -/
theorem tail_reads {W : World} {B : Nat} {t : TypeId} {cs : Array Value} (o n : Nat) (bs : List Int) (h : W.heap[B]? = some (.cells cs t (0, 0))) (hc : (cs.toList.drop o).take bs.length = bs.map (Value.int .u8)) (hl : bs.length ≤ 1000) :
  (Kd.int .u8).C W (some ⟨B, o + n, none⟩) (bs.length - n) (bs.drop n) := by
 refine ⟨by rw [List.length_drop], by omega, fun _ => ⟨_, rfl, fun j p hj => ⟨[.int .u8 p], rfl, rfl, fun i u hu => ?_⟩⟩⟩
 have hi : i = 0 ∧ u = .int .u8 p := by
  cases i with
  | zero => simpa using hu.symm
  | succ i => simp at hu
 obtain ⟨rfl, rfl⟩ := hi
 rw [List.getElem?_drop] at hj
 have hlt : n + j < bs.length := (List.getElem?_eq_some_iff.1 hj).1
 have e : (Addr.add ⟨B, o + n, none⟩ (j * (Kd.int .u8).sz + 0)) = ⟨B, o + (n + j), none⟩ := by
  have hz : (Kd.int .u8).sz = 1 := rfl
  rw [hz]
  unfold Addr.add
  split
  ·
   simp only [Addr.mk.injEq, and_true, true_and]
   omega
  ·
   simp only [Addr.mk.injEq, and_true, true_and]
   omega
 rw [e, zqab h, ← Array.getElem?_toList]
 have e2 : ((cs.toList.drop o).take bs.length)[n + j]? = cs.toList[o + (n + j)]? := by rw [List.getElem?_take, if_pos hlt, List.getElem?_drop]
 rw [← e2, hc, List.getElem?_map, hj]
 rfl
theorem one_own (W : World) (base : Nat) (B : Nat) (hb : base ≤ B) (h : W.heap[B]? = some (.cells #[.int .u8 0] 5 (0, 0))) : (Kd.int .u8).R 5 W base (fun _ => True) (.slice (some ⟨B, 0, none⟩) 1 1) [0] :=
 ⟨fun _ _ => trivial, [.int .u8 0], ⟨rfl, .inr ⟨B, 1, #[.int .u8 0], rfl, hb, h, Nat.le_refl _, by decide, rfl, rfl⟩⟩, Reps.one rfl (Reps.none _ _)⟩
theorem new2 (w : World) (o1 o2 : Obj) : ((w.alloc o1).alloc o2).heap[w.heap.size + 1]? = some o2 := by
 have h := heap_alloc_new (w.alloc o1) o2
 rwa [World.size_alloc] at h
set_option maxHeartbeats 2000000 in
set_option maxRecDepth 100000 in
theorem frame_Check.calls (a0_0 : Int) (a0_1 : Bool) (a0_2 : Bool) (a0_3 : Int) (a0_4 : Int) (a0_5 : Int) (a0_6 : Int) (a0_7 : Int) (a0_8 : Int) (a0_9 : Int) (a0_10 : Int) (a0_11 : Int) (r : Int) (w : World) (h : frame_Check.f a0_0 a0_1 a0_2 a0_3 a0_4 a0_5 a0_6 a0_7 a0_8 a0_9 a0_10 a0_11 = some r) :
  Calls Try.prog 33 #[.agg #[.int .i64 a0_0, .bool a0_1, .bool a0_2, .int .i64 a0_3, .int .u8 a0_4, .int .u8 a0_5, .int .u8 a0_6, .int .u8 a0_7, .int .u8 a0_8, .int .u8 a0_9, .int .u8 a0_10, .int .u8 a0_11]] w fun e w' => e = .returned (.int .i64 r) ∧ Below w.heap.size w w' := by
 have hu := Try.underlying24
 unfold frame_Check.f at h
 have HMX := Aside0.mk (fun k A0 c0 l0 r w => slices_Max_byte_byte.calls k A0 c0 l0 r w)
 by_cases c1 : a0_0 < 0
 ·
  rw [if_pos (.inl c1)] at h
  obtain rfl := Option.some.inj h
  clear h
  cases a0_1
  all_goals
   go_enter Try.func33, Try.ntmps33
   go_wp2
   all_goals
    go_ret
    exact ⟨rfl, (Below.refl _ _).alloc (Nat.le_refl _) _⟩
 by_cases c2 : a0_0 > (if a0_1 = true then 536870911 else 2047)
 ·
  rw [if_pos (.inr (.inl c2))] at h
  obtain rfl := Option.some.inj h
  clear h
  cases a0_1
  all_goals
   simp only [if_true, if_false, Bool.false_eq_true] at c2
   go_enter Try.func33, Try.ntmps33
   go_wp2
   all_goals
    go_ret
    exact ⟨rfl, (Below.refl _ _).alloc (Nat.le_refl _) _⟩
 by_cases c3 : a0_3 < 0
 ·
  rw [if_pos (.inr (.inr (.inl c3)))] at h
  obtain rfl := Option.some.inj h
  clear h
  cases a0_1
  all_goals
   simp only [if_true, if_false, Bool.false_eq_true] at c2
   go_enter Try.func33, Try.ntmps33
   go_wp2
   all_goals
    go_ret
    exact ⟨rfl, (Below.refl _ _).alloc (Nat.le_refl _) _⟩
 by_cases c4 : a0_3 > 8
 ·
  rw [if_pos (.inr (.inr (.inr c4)))] at h
  obtain rfl := Option.some.inj h
  clear h
  cases a0_1
  all_goals
   simp only [if_true, if_false, Bool.false_eq_true] at c2
   go_enter Try.func33, Try.ntmps33
   go_wp2
   all_goals
    go_ret
    exact ⟨rfl, (Below.refl _ _).alloc (Nat.le_refl _) _⟩
 rw [if_neg (fun e => by rcases e with e | e | e | e <;> contradiction)] at h
 obtain ⟨n, rfl⟩ := Int.eq_ofNat_of_zero_le (show 0 ≤ a0_3 by omega)
 have hn : n ≤ 8 := by omega
 obtain ⟨BS, hBS⟩ : ∃ BS, BS = [a0_4, a0_5, a0_6, a0_7, a0_8, a0_9, a0_10, a0_11] := ⟨_, rfl⟩
 rw [← hBS] at h
 have HBL : Aside0 (BS.length = 8) := ⟨by rw [hBS]; rfl⟩
 cases a0_2
 ·
  simp only [if_true, if_false, Bool.false_eq_true, Int.toNat_natCast] at h
  have HMT : Aside0 (slices_Max_byte_byte.f 200 ([0] ++ BS.drop n) = some ((BS.drop n).foldl mx 0)) := ⟨max_tail (BS.drop n) (by rw [List.length_drop, HBL.out]; omega)⟩
  have HTR : Aside0 (∀ W : World, ∀ x : Bool, W.heap[w.heap.size]? = some (.cells #[.int .i64 a0_0, .bool x, .bool false, .int .i64 (n : Int), .int .u8 a0_4, .int .u8 a0_5, .int .u8 a0_6, .int .u8 a0_7, .int .u8 a0_8, .int .u8 a0_9, .int .u8 a0_10, .int .u8 a0_11] 24 (0, 0)) → (Kd.int .u8).C W (some (if 8 = n then ⟨w.heap.size, 4, none⟩ else ⟨w.heap.size, 4 + n, none⟩)) (8 - n) (BS.drop n)) := ⟨fun W x hW => by
   by_cases h8 : 8 = n
   ·
    subst h8
    rw [List.drop_eq_nil_of_le (by rw [HBL.out]; omega)]
    exact ⟨rfl, by omega, fun h => absurd h (by omega)⟩
   rw [if_neg h8]
   have := tail_reads 4 n BS hW (by rw [hBS]; rfl) (by rw [HBL.out]; omega)
   rwa [HBL.out] at this⟩
  by_cases ha : (BS.drop n).all (fun x => decide (x ≤ 0)) = true
  ·
   rw [if_pos ha] at h
   obtain rfl := Option.some.inj h
   have hgt : ¬ ((BS.drop n).foldl mx 0 > 0) := fun e => (foldl_mx _ _).1 e ⟨Int.le_refl _, ha⟩
   clear h ha hBS
   cases a0_1
   all_goals
    simp only [if_true, if_false, Bool.false_eq_true] at c2
    go_enter Try.func33, Try.ntmps33
    go_wp2_with (first | ((with_reducible refine zqao (b := .append) (xs := #[.tmp 30, .tmp 33]) rfl ?_); at_builtin; refine Kd.R_append_row (Value.int .u8) (0 : Int) (h1 := fun _ => rfl) (w0 := w) w.heap.size rfl (.tmp 30) (.tmp 33) 66 5 (.int .u8 0) 1 rfl Try.underlying66 info5 rfl (by decide) _ [0] (BS.drop n) (some (if 8 = n then ⟨w.heap.size, 4, none⟩ else ⟨w.heap.size, 4 + n, none⟩)) (8 - n) (8 - n) (fun _ => True) rfl rfl (fun _ _ => trivial) ?aO ?aR ?aB ?aS ?aL ?_; (case aO => exact one_own _ _ _ (by omega) (new2 _ _ _)); (case aR => first | exact HTR.out _ false ((heap_alloc_old _ _ (by simp)).trans (heap_alloc_new _ _)) | exact HTR.out _ true ((heap_alloc_old _ _ (by simp)).trans (heap_alloc_new _ _))); (case aB => exact (((Below.refl _ _).alloc (Nat.le_refl _) _).alloc (by simp) _)); (case aS => simp only [World.size_alloc]; omega); (case aL => simp only [List.length_singleton]; omega); intro v1 w1 ho hb hg hat; clear hg hat; have HB1 := Aside0.mk hb; have hmt_ := HMT.out; generalize [0] ++ BS.drop n = xs at ho hmt_; obtain ⟨Ao, co, eo, hco, hcc⟩ := Kd.R_reads ho; subst eo; have HC1 := Aside0.mk (HMX.out 200 Ao co xs ((BS.drop n).foldl mx 0) w1 hcc hco hmt_); clear ho hb hco hcc hmt_) | (go_at_call 61; refine HC1.out.mono ?_; rintro e w2 ⟨rfl, hb⟩; have HB2 := Aside0.mk (zqak HB1.out hb); clear hb))
    all_goals
     go_ret
     exact ⟨rfl, HB2.out⟩
  ·
   rw [if_neg ha] at h
   obtain rfl := Option.some.inj h
   have hgt : (BS.drop n).foldl mx 0 > 0 := (foldl_mx _ _).2 fun e => ha e.2
   clear h ha hBS
   cases a0_1
   all_goals
    simp only [if_true, if_false, Bool.false_eq_true] at c2
    go_enter Try.func33, Try.ntmps33
    go_wp2_with (first | ((with_reducible refine zqao (b := .append) (xs := #[.tmp 30, .tmp 33]) rfl ?_); at_builtin; refine Kd.R_append_row (Value.int .u8) (0 : Int) (h1 := fun _ => rfl) (w0 := w) w.heap.size rfl (.tmp 30) (.tmp 33) 66 5 (.int .u8 0) 1 rfl Try.underlying66 info5 rfl (by decide) _ [0] (BS.drop n) (some (if 8 = n then ⟨w.heap.size, 4, none⟩ else ⟨w.heap.size, 4 + n, none⟩)) (8 - n) (8 - n) (fun _ => True) rfl rfl (fun _ _ => trivial) ?aO ?aR ?aB ?aS ?aL ?_; (case aO => exact one_own _ _ _ (by omega) (new2 _ _ _)); (case aR => first | exact HTR.out _ false ((heap_alloc_old _ _ (by simp)).trans (heap_alloc_new _ _)) | exact HTR.out _ true ((heap_alloc_old _ _ (by simp)).trans (heap_alloc_new _ _))); (case aB => exact (((Below.refl _ _).alloc (Nat.le_refl _) _).alloc (by simp) _)); (case aS => simp only [World.size_alloc]; omega); (case aL => simp only [List.length_singleton]; omega); intro v1 w1 ho hb hg hat; clear hg hat; have HB1 := Aside0.mk hb; have hmt_ := HMT.out; generalize [0] ++ BS.drop n = xs at ho hmt_; obtain ⟨Ao, co, eo, hco, hcc⟩ := Kd.R_reads ho; subst eo; have HC1 := Aside0.mk (HMX.out 200 Ao co xs ((BS.drop n).foldl mx 0) w1 hcc hco hmt_); clear ho hb hco hcc hmt_) | (go_at_call 61; refine HC1.out.mono ?_; rintro e w2 ⟨rfl, hb⟩; have HB2 := Aside0.mk (zqak HB1.out hb); clear hb))
    all_goals
     go_ret
     exact ⟨rfl, HB2.out⟩
 ·
  simp only [if_true, List.drop_zero] at h
  have HMT : Aside0 (slices_Max_byte_byte.f 200 ([0] ++ BS) = some (BS.foldl mx 0)) := ⟨max_tail BS (by rw [HBL.out]; omega)⟩
  have HTR : Aside0 (∀ W : World, ∀ x : Bool, W.heap[w.heap.size]? = some (.cells #[.int .i64 a0_0, .bool x, .bool true, .int .i64 (n : Int), .int .u8 a0_4, .int .u8 a0_5, .int .u8 a0_6, .int .u8 a0_7, .int .u8 a0_8, .int .u8 a0_9, .int .u8 a0_10, .int .u8 a0_11] 24 (0, 0)) → (Kd.int .u8).C W (some ⟨w.heap.size, 4, none⟩) 8 BS) := ⟨fun W x hW => by
   have := tail_reads 4 0 BS hW (by rw [hBS]; rfl) (by rw [HBL.out]; omega)
   rwa [HBL.out, List.drop_zero] at this⟩
  by_cases ha : BS.all (fun x => decide (x ≤ 0)) = true
  ·
   rw [if_pos ha] at h
   obtain rfl := Option.some.inj h
   have hgt : ¬ (BS.foldl mx 0 > 0) := fun e => (foldl_mx _ _).1 e ⟨Int.le_refl _, ha⟩
   clear h ha hBS
   cases a0_1
   all_goals
    simp only [if_true, if_false, Bool.false_eq_true] at c2
    go_enter Try.func33, Try.ntmps33
    go_wp2_with (first | ((with_reducible refine zqao (b := .append) (xs := #[.tmp 30, .tmp 33]) rfl ?_); at_builtin; refine Kd.R_append_row (Value.int .u8) (0 : Int) (h1 := fun _ => rfl) (w0 := w) w.heap.size rfl (.tmp 30) (.tmp 33) 66 5 (.int .u8 0) 1 rfl Try.underlying66 info5 rfl (by decide) _ [0] BS (some ⟨w.heap.size, 4, none⟩) 8 8 (fun _ => True) rfl rfl (fun _ _ => trivial) ?aO ?aR ?aB ?aS ?aL ?_; (case aO => exact one_own _ _ _ (by omega) (new2 _ _ _)); (case aR => first | exact HTR.out _ false ((heap_alloc_old _ _ (by simp)).trans (heap_alloc_new _ _)) | exact HTR.out _ true ((heap_alloc_old _ _ (by simp)).trans (heap_alloc_new _ _))); (case aB => exact (((Below.refl _ _).alloc (Nat.le_refl _) _).alloc (by simp) _)); (case aS => simp only [World.size_alloc]; omega); (case aL => simp only [List.length_singleton]; omega); intro v1 w1 ho hb hg hat; clear hg hat; have HB1 := Aside0.mk hb; have hmt_ := HMT.out; generalize [0] ++ BS = xs at ho hmt_; obtain ⟨Ao, co, eo, hco, hcc⟩ := Kd.R_reads ho; subst eo; have HC1 := Aside0.mk (HMX.out 200 Ao co xs (BS.foldl mx 0) w1 hcc hco hmt_); clear ho hb hco hcc hmt_) | (go_at_call 61; refine HC1.out.mono ?_; rintro e w2 ⟨rfl, hb⟩; have HB2 := Aside0.mk (zqak HB1.out hb); clear hb))
    all_goals
     go_ret
     exact ⟨rfl, HB2.out⟩
  ·
   rw [if_neg ha] at h
   obtain rfl := Option.some.inj h
   have hgt : BS.foldl mx 0 > 0 := (foldl_mx _ _).2 fun e => ha e.2
   clear h ha hBS
   cases a0_1
   all_goals
    simp only [if_true, if_false, Bool.false_eq_true] at c2
    go_enter Try.func33, Try.ntmps33
    go_wp2_with (first | ((with_reducible refine zqao (b := .append) (xs := #[.tmp 30, .tmp 33]) rfl ?_); at_builtin; refine Kd.R_append_row (Value.int .u8) (0 : Int) (h1 := fun _ => rfl) (w0 := w) w.heap.size rfl (.tmp 30) (.tmp 33) 66 5 (.int .u8 0) 1 rfl Try.underlying66 info5 rfl (by decide) _ [0] BS (some ⟨w.heap.size, 4, none⟩) 8 8 (fun _ => True) rfl rfl (fun _ _ => trivial) ?aO ?aR ?aB ?aS ?aL ?_; (case aO => exact one_own _ _ _ (by omega) (new2 _ _ _)); (case aR => first | exact HTR.out _ false ((heap_alloc_old _ _ (by simp)).trans (heap_alloc_new _ _)) | exact HTR.out _ true ((heap_alloc_old _ _ (by simp)).trans (heap_alloc_new _ _))); (case aB => exact (((Below.refl _ _).alloc (Nat.le_refl _) _).alloc (by simp) _)); (case aS => simp only [World.size_alloc]; omega); (case aL => simp only [List.length_singleton]; omega); intro v1 w1 ho hb hg hat; clear hg hat; have HB1 := Aside0.mk hb; have hmt_ := HMT.out; generalize [0] ++ BS = xs at ho hmt_; obtain ⟨Ao, co, eo, hco, hcc⟩ := Kd.R_reads ho; subst eo; have HC1 := Aside0.mk (HMX.out 200 Ao co xs (BS.foldl mx 0) w1 hcc hco hmt_); clear ho hb hco hcc hmt_) | (go_at_call 61; refine HC1.out.mono ?_; rintro e w2 ⟨rfl, hb⟩; have HB2 := Aside0.mk (zqak HB1.out hb); clear hb))
    all_goals
     go_ret
     exact ⟨rfl, HB2.out⟩


end Go.Proofs.Ytakemodmdhglnaa.PA
