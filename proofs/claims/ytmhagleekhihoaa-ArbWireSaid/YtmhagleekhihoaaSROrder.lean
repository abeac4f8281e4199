import Derived.Test.YtmhagleekhihoaaSWins
namespace Go.AK
open Go Go.RowKit Go.Proofs
set_option linter.unusedVariables false
set_option maxRecDepth 100000
def goneB (o : List Int) (n k : Nat) : List AV := (List.range n).map fun (i : Nat) => AV.b (decide ((i : Int) ∈ o.take k))
def restA (o : List Int) (k i : Nat) : List Int := (iota i).filter fun x => !decide (x ∈ o.take k)
theorem goneB_zero (o : List Int) (n : Nat) : goneB o n 0 = List.replicate n (.b false) := by
  unfold goneB
  rw [List.eq_replicate_iff]
  refine ⟨by simp, fun b hb => ?_⟩
  obtain ⟨i, _, rfl⟩ := List.mem_map.1 hb
  simp
theorem goneB_length (o : List Int) (n k : Nat) : (goneB o n k).length = n := by simp [goneB]
theorem goneB_get (o : List Int) (n k : Nat) {i : Nat} (hi : i < n) : (goneB o n k)[i]? = some (.b (decide ((i : Int) ∈ o.take k))) := by
  simp [goneB, hi]
theorem goneB_set {o : List Int} {n k x : Nat} (hx : o[k]? = some (x : Int)) (hn : x < n) : setCells (goneB o n k) x [.b true] = goneB o n (k + 1) := by
  show (goneB o n k).set x (.b true) = _
  refine List.ext_getElem? fun i => ?_
  by_cases hi : i < n
  · rw [List.getElem?_set, goneB_get _ _ _ hi, goneB_length, goneB_get _ _ _ hi, List.take_add_one, hx]
    by_cases e : x = i
    · subst e; simp [hn]
    · have e2 : (i : Int) ≠ x := by omega
      simp [e, e2]
  · rw [List.getElem?_eq_none (by rw [List.length_set, goneB_length]; omega), List.getElem?_eq_none (by rw [goneB_length]; omega)]
theorem subs_gone (φ : Nat → Sb) (o : List Int) (n k : Nat) : subs φ (goneB o n k) = goneB o n k := by
  unfold goneB
  induction List.range n with
  | nil => rfl
  | cons a L ih => rw [List.map_cons, subs, ih]; rfl
theorem frs_one (F : Fr) : frs [F] = F.cells := by
  unfold frs
  simp [frs]
theorem restA_in {o : List Int} {k i : Nat} (h : ¬ (i : Int) ∈ o.take k) : restA o k (i + 1) = restA o k i ++ [(i : Int)] := by
  unfold restA
  rw [iota_succ, List.filter_append]
  simp [h]
theorem restA_out {o : List Int} {k i : Nat} (h : (i : Int) ∈ o.take k) : restA o k (i + 1) = restA o k i := by
  unfold restA
  rw [iota_succ, List.filter_append]
  simp [h]
theorem restA_le (o : List Int) (k i : Nat) : (restA o k i).length ≤ i := Nat.le_trans (List.length_filter_le _ _) (by rw [iota_length]; omega)
theorem rest_least {l : List Fr} (h : AllGo l) {k : Nat} (hk : k < l.length) : ∃ p x : Nat, (ordL l)[k]? = some (x : Int) ∧ x < l.length ∧ (restA (ordL l) k l.length)[p]? = some (x : Int) ∧ leftL ((restA (ordL l) k l.length).map (at_ l)) = [(p : Int)] := by
  have hg := ordL_good h
  generalize ordL l = o at hg
  have hol : o.length = l.length := by rw [hg.1.length_eq, iota_length]
  have hnd : o.Nodup := hg.1.nodup_iff.2 (iota_nodup _)
  have hko : k < o.length := by omega
  have hin := mem_iota.1 (hg.1.mem_iff.1 (List.getElem_mem hko))
  obtain ⟨x, hx⟩ : ∃ x : Nat, o[k] = x := ⟨o[k].toNat, by omega⟩
  have hxA : o[k] ∈ restA o k l.length := by
    refine List.mem_filter.2 ⟨mem_iota.2 hin, ?_⟩
    have : ¬ o[k] ∈ o.take k := fun hm => by
      obtain ⟨q, hq, e⟩ := List.mem_iff_getElem.1 hm
      rw [List.length_take] at hq
      rw [List.getElem_take] at e
      have := (List.getElem_inj hnd).1 e
      omega
    simp [this]
  obtain ⟨p, hp, hpx⟩ := List.mem_iff_getElem.1 hxA
  refine ⟨p, x, by rw [List.getElem?_eq_getElem hko, hx], by omega, by rw [List.getElem?_eq_getElem hp, hpx, hx], ?_⟩
  have hAn : (restA o k l.length).Nodup := (iota_nodup _).filter _
  refine left_least (by omega) (by rw [List.length_map]; omega) fun i h0 h1 hne => ?_
  rw [List.length_map] at h1
  obtain ⟨i, rfl⟩ := Int.eq_ofNat_of_zero_le h0
  have hi : i < (restA o k l.length).length := by omega
  rw [at_get _ p (by rw [List.length_map]; exact hp), at_get _ i (by rw [List.length_map]; exact hi), List.getElem_map, List.getElem_map, hpx]
  have hm := List.mem_filter.1 (List.getElem_mem hi)
  obtain ⟨q, hq, hqe⟩ := List.mem_iff_getElem.1 (hg.1.mem_iff.2 hm.1)
  rw [← hqe]
  refine List.pairwise_iff_getElem.1 hg.2 k q hko hq ?_
  have hn1 : ¬ q < k := fun hlt => by
    have hq2 : (restA o k l.length)[i] ∈ o.take k := by
      rw [← hqe, show o[q] = (o.take k)[q]'(by rw [List.length_take]; omega) from (List.getElem_take ..).symm]
      exact List.getElem_mem _
    simp [hq2] at hm
  have hn2 : q ≠ k := fun e => by
    subst e
    rw [← hpx] at hqe
    have := (List.getElem_inj hAn).1 hqe
    omega
  omega
set_option maxHeartbeats 2000000 in
theorem rorder_spec (l : List Fr) (hl : l.length ≤ 12) (h : AllGo l) :
    ACall Try.prog 40 [.rs (frs l) 0 12 l.length] [] fun r H => ∃ c, l.length ≤ c ∧ r = .ret (.sl (some (0, 0)) 1 l.length c) ∧ H = [.c (ints (ordL l))] := by
  refine ACall.gh ?_
  refine ACall.enter tok false Try.func40 rfl rfl rfl (AW_sound (ip := false) tok _ _ _ _ ?_)
  conv => whnf
  refine ⟨⟨by omega, by omega, by show (1 : Int) * l.length ≤ _; omega, by omega⟩, ?_⟩
  conv => whnf
  generalize ho : ordL l = o
  have hol : o.length = l.length := by rw [← ho, ordL_length]
  refine ALoop.ind (ip := false) tok (fun m r H => ∃ (k c : Nat), k ≤ l.length ∧ m = l.length - k ∧ k ≤ c ∧ H = [.c (ints (o.take k)), .c (goneB o l.length k)] ∧
    r = [(4, .sl (some (1, 0)) 1 l.length l.length), (3, .sl (some (0, 0)) 1 k c), (0, .rs (frs l) 0 12 l.length)]) l.length ?_ ?_
  · refine Gh.regs [4, 3, 0] (Gh.of ⟨0, 0, by omega, by omega, by omega, ?_, rfl⟩)
    rw [goneB_zero]
    show [Blk.c [], Blk.c (List.replicate (l.length : Int).toNat [AV.b false]).flatten] = _
    simp
    rfl
  · rintro m r H ⟨k, c, hk, rfl, hc, rfl, rfl⟩
    have htl : (o.take k).length = k := by rw [List.length_take]; omega
    by_cases h1 : (k : Int) < l.length
    · conv => whnf
      refine acond_t (decide_eq_true h1) ?_
      conv => whnf
      refine ALoop.ind (ip := false) tok (fun m r H => ∃ (i d e : Nat), i ≤ l.length ∧ m = l.length - i ∧ (restA o k i).length ≤ d ∧ (restA o k i).length ≤ e ∧
        H = [.c (ints (o.take k)), .c (goneB o l.length k), .c (frs ((restA o k i).map (at_ l))), .c (ints (restA o k i))] ∧
        r = [(7, .i .i64 i), (6, .sl (some (3, 0)) 1 (restA o k i).length e), (5, .sl (some (2, 0)) 12 (restA o k i).length d), (4, .sl (some (1, 0)) 1 l.length l.length), (3, .sl (some (0, 0)) 1 k c), (0, .rs (frs l) 0 12 l.length)]) l.length ?_ ?_
      · exact Gh.regs [7, 6, 5, 4, 3, 0] (Gh.of ⟨0, 0, 0, by omega, by omega, Nat.le_refl _, Nat.le_refl _, rfl, rfl⟩)
      · rintro m r H ⟨i, d, e, hi, rfl, hd, he, rfl, rfl⟩
        have hA := restA_le o k i
        by_cases h2 : (i : Int) < l.length
        · have hil : i < l.length := by omega
          have hgg := goneB_get o l.length k hil
          conv => whnf
          refine acond_t (decide_eq_true h2) ?_
          conv => whnf
          refine ⟨⟨by omega, h2⟩, ?_⟩
          conv => whnf
          refine aget_at (i := i) (by omega) hgg ?_
          conv => whnf
          by_cases h3 : (i : Int) ∈ o.take k
          · refine acond_f (t := !decide ((i : Int) ∈ o.take k)) (by rw [decide_eq_true h3]; rfl) ?_
            conv => whnf
            refine Gh.regs [7, 6, 5, 4, 3, 0] (Gh.of ⟨l.length - (i + 1), by omega, i + 1, d, e, by omega, rfl, ?_, ?_, ?_, ?_⟩)
            · rw [restA_out h3]; exact hd
            · rw [restA_out h3]; exact he
            · rw [restA_out h3]
            · rw [restA_out h3, w64 (by omega) (by omega)]; rfl
          · refine acond_t (t := !decide ((i : Int) ∈ o.take k)) (by simp [h3]) ?_
            conv => whnf
            refine ⟨⟨by omega, h2⟩, ?_⟩
            conv => whnf
            refine aget_fr (k := i) (by omega) hil ?_
            conv => whnf
            have hAl : (frs ((restA o k i).map (at_ l))).length = (restA o k i).length * 12 := by rw [frs_length, List.length_map]
            refine ⟨by dsimp only; rw [hAl]; omega, ?_⟩
            conv => whnf
            refine ⟨by show 12 ≤ (12 : Nat); omega, ?_⟩
            conv => whnf
            refine ⟨rfl, by (try dsimp only); omega, by (try dsimp only); omega, fun d2 hd2 => ?_⟩
            conv => whnf
            refine ⟨by dsimp only; rw [nums_length]; omega, ?_⟩
            conv => whnf
            refine ⟨by show 1 ≤ (1 : Nat); omega, ?_⟩
            conv => whnf
            refine ⟨rfl, by (try dsimp only); omega, by (try dsimp only); omega, fun e2 he2 => ?_⟩
            conv => whnf
            have hst := restA_in h3
            refine Gh.regs [7, 6, 5, 4, 3, 0] (Gh.sel [0, 1, 5, 7] rfl (Gh.of ⟨l.length - (i + 1), by omega, i + 1, d2, e2, by omega, rfl, ?_, ?_, ?_, ?_⟩))
            · rw [hst, List.length_append]; exact hd2
            · rw [hst, List.length_append]; exact he2
            · have eA : List.take ((restA o k i).length * 12) (List.drop 0 (frs ((restA o k i).map (at_ l)))) ++ l[i].cells = frs ((restA o k (i + 1)).map (at_ l)) := by
                rw [hst, List.drop_zero, List.take_of_length_le (by rw [hAl]; omega), List.map_append, frs_append, List.map_singleton, at_get l i hil, frs_one]
              have eB : List.take ((restA o k i).length * 1) (List.drop 0 (ints (restA o k i))) ++ ints [(i : Int)] = ints (restA o k (i + 1)) := by
                rw [hst, List.drop_zero, List.take_of_length_le (by rw [nums_length]; omega), ← nums_append]
              show [Blk.c (subs _ (ints _)), Blk.c (subs _ (goneB _ _ _)), Blk.c (subs _ (List.take ((restA o k i).length * 12) (List.drop 0 (frs _)) ++ l[i].cells)), Blk.c (subs _ (List.take ((restA o k i).length * 1) (List.drop 0 (ints _)) ++ ints [(i : Int)]))] = _
              rw [eA, eB, subs_nums, subs_nums, subs_gone, subs_frs]
            · rw [hst]
              refine keep_eq (show keepR _ _ = [_, _, _, _, _, _] from rfl) ?_
              simp only [subG, sub, subs_frs, List.length_append, List.length_singleton]
              rw [w64 (by omega) (by omega)]
              rfl
        · have hil : i = l.length := by omega
          subst hil
          conv => whnf
          refine acond_f (decide_eq_false h2) ?_
          conv => whnf
          have hk1 : k < l.length := by omega
          obtain ⟨p, x, hox, hxl, hpx, hleft⟩ := rest_least h hk1
          rw [ho] at hox hpx hleft
          have hmay : ∀ F ∈ (restA o k l.length).map (at_ l), F.may := fun F hF => by
            obtain ⟨y, hy, rfl⟩ := List.mem_map.1 hF
            have := mem_iota.1 (List.mem_filter.1 hy).1
            exact h.1 _ (at_mem this.1 this.2)
          have hw := wins_spec ((restA o k l.length).map (at_ l)) (by rw [List.length_map]; omega) hmay (by rw [hleft]; simp)
          rw [hleft, List.length_map, show [(p : Int)].getD 0 0 = p from rfl] at hw
          have hpl : p < (restA o k l.length).length := (List.getElem?_eq_some_iff.1 hpx).1
          refine ACall.frame [] [2] rfl (args' := [.rs (frs ((restA o k l.length).map (at_ l))) 0 12 (restA o k l.length).length]) (Hc := []) (by show [AV.rs (subs _ (frs _)) 0 12 _] = _; rw [subs_frs]) rfl hw ?_
          rintro r H ⟨rfl, rfl⟩
          refine ⟨.inr ⟨rfl, rfl⟩, ?_⟩
          conv => whnf
          refine ⟨⟨by omega, by omega⟩, ?_⟩
          conv => whnf
          refine aget_num (i := p) (by omega) hpx ?_
          conv => whnf
          refine ⟨⟨by omega, by omega⟩, ?_⟩
          conv => whnf
          refine ⟨by dsimp only; rw [goneB_length]; omega, ?_⟩
          conv => whnf
          refine ⟨by dsimp only; rw [nums_length, htl]; omega, ?_⟩
          conv => whnf
          refine ⟨by show 1 ≤ (1 : Nat); omega, ?_⟩
          conv => whnf
          refine ⟨rfl, by (try dsimp only); omega, by (try dsimp only); omega, fun c2 hc2 => ?_⟩
          conv => whnf
          refine Gh.regs [4, 3, 0] (Gh.sel [5, 1] rfl (Gh.of ⟨l.length - (k + 1), by omega, k + 1, c2, by omega, rfl, hc2, ?_, ?_⟩))
          · have eA : List.take (k * 1) (List.drop 0 (ints (o.take k))) ++ ints [(x : Int)] = ints (o.take (k + 1)) := by
              rw [List.drop_zero, List.take_of_length_le (by rw [nums_length, htl]; omega), ← nums_append, List.take_add_one, hox]
              rfl
            show [Blk.c (subs _ (List.take (k * 1) (List.drop 0 (ints (o.take k))) ++ ints [(x : Int)])), Blk.c (subs _ (setCells (goneB o l.length k) (0 + (x : Int).toNat * 1) [.b true]))] = _
            rw [eA, subs_nums, show (0 + (x : Int).toNat * 1) = x from by omega, goneB_set hox hxl, subs_gone]
          · refine keep_eq (show keepR _ _ = [_, _, _] from rfl) ?_
            simp only [subG, sub, subs_frs]
            rfl
    · conv => whnf
      refine acond_f (decide_eq_false h1) ?_
      conv => whnf
      have : k = l.length := by omega
      subst this
      refine GhR.sel [0] rfl (GhR.of ⟨c, hc, rfl, ?_⟩)
      show [Blk.c (subs _ (ints (o.take l.length)))] = _
      rw [subs_nums, List.take_of_length_le (by omega)]
end Go.AK
