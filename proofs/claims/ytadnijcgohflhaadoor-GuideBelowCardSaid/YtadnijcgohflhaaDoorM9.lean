/- Parts of the proof of CGuideBelow: F21, SyR, SyS, F26, F27, F28, F35. No conditions. -/
import Derived.Test.YtadnijcgohflhaaDoorM8
namespace Go.Sy
open Go.Proofs

/-! ### ShredCounts -/

def metK (S : Sk) (n i : Nat) (ks : List Nat) : List Nat := (List.range n).map fun m => sumP S m 0 i + ks.count m
theorem metK_len (S : Sk) (n i : Nat) (ks : List Nat) : (metK S n i ks).length = n := by simp [metK]
theorem metK_get (S : Sk) (n i : Nat) (ks : List Nat) {m : Nat} (h : m < n) : (metK S n i ks)[m]? = some (sumP S m 0 i + ks.count m) := by
  simp [metK, h]
theorem metK_zero (S : Sk) (n : Nat) : metK S n 0 [] = List.replicate n 0 := by
  apply List.ext_getElem
  · simp [metK]
  · intro j h1 h2
    simp [metK, sumP]
theorem metK_next (S : Sk) (n i : Nat) : metK S n i (kidsAt S i) = metK S n (i + 1) [] := by
  unfold metK
  refine List.map_congr_left fun m _ => ?_
  show _ = sumP S m 0 i + (kidsAt S (0 + i)).count m + 0
  rw [Nat.zero_add]
  rfl
theorem metK_inc (S : Sk) (n i : Nat) (ks : List Nat) (m : Nat) : (metK S n i ks).set m (sumP S m 0 i + ks.count m + 1) = metK S n i (ks ++ [m]) := by
  apply List.ext_getElem
  · simp [metK]
  · intro j h1 h2
    simp only [metK, List.getElem_set, List.getElem_map, List.getElem_range, List.count_append, List.count_cons, List.count_nil]
    by_cases hj : m = j
    · subst hj
      simp
      omega
    · rw [if_neg hj, if_neg (by simpa using hj)]
      omega

def mtE (g n : Nat) (xs : List Nat) : AE := ⟨some ⟨g, 0, none⟩, n, n, 3, 1, intVs' xs⟩

set_option maxRecDepth 100000 in
set_option maxHeartbeats 1000000 in
theorem ShredCounts_c (σ : Snap) (g : GVal) (r : List AT) (gap : Int) (hr : RepV σ g r) :
    PlainS Tryd.prog 5 [.agg r, .a (.v (.int .i64 gap))] σ (fun v => v = .bool true) := by
  obtain ⟨la, lc, lrows, ma, mc, vrows, rfl, V⟩ := hr.open
  refine enter_p Tryd.func5 rfl rfl (by (repeat' (first | exact trivial | exact vCells_lt _ _ _ _ _ _ | constructor))) fun w => ?_
  (repeat (first | refine cj_seq ?_ | (refine cj_region ?_; refine oj_run TT rfl ?_) | refine oj_then ?_))
  refine oj_callP rfl rfl rfl rfl rfl Tryd.call18 (by (repeat' exact trivial)) (awake11_c σ) fun v hv => ⟨.a .tt, trivial, hv.symm, ?_⟩
  refine oj_run TT rfl ?_
  (repeat (first | refine cj_seq ?_ | (refine cj_region ?_; refine oj_run TT rfl ?_) | refine oj_then ?_))
  refine oj_callP rfl rfl rfl rfl rfl Tryd.call19 (by (repeat' (first | exact trivial | exact vCells_lt _ _ _ _ _ _ | constructor))) (Few_c σ g _ 800 V.rep (by omega) (by omega)) fun v ⟨fb, hv, hfew⟩ => ⟨.a (.b fb), trivial, hv.symm, ?_⟩
  refine oj_run TT rfl ?_
  skip
  refine oj_split 18 rfl (fun h => ?_) (fun h => ?_)
  · refine oj_run TT rfl ?_
    (repeat (first | refine cj_seq ?_ | (refine cj_region ?_; refine oj_run TT rfl ?_) | refine oj_then ?_ | refine cj_if_t rfl ?_ | refine cj_ret ?_ | refine nj_then_ret ?_))
    refine nj_ret TT rfl fun β w' _ _ => ?_
    rfl
  have hw : g.weight ≤ 800 := by
    have := hfew (by simpa using h)
    omega
  refine oj_run TT rfl ?_
  skip
  refine oj_callP rfl rfl rfl rfl rfl Tryd.call20 (by (repeat' (first | exact trivial | exact vCells_lt _ _ _ _ _ _ | constructor))) (Sane_c σ g _ V.rep (by omega)) fun v hv => ⟨.a (.v (.int .i64 (sane g))), trivial, hv.symm, ?_⟩
  refine oj_run TT rfl ?_
  skip
  refine oj_split 23 rfl (fun h => ?_) (fun h => ?_)
  · refine oj_run TT rfl ?_
    (repeat (first | refine cj_seq ?_ | (refine cj_region ?_; refine oj_run TT rfl ?_) | refine oj_then ?_ | refine cj_if_t rfl ?_ | refine cj_ret ?_ | refine nj_then_ret ?_))
    refine nj_ret TT rfl fun β w' _ _ => ?_
    rfl
  have hs : sane g = 0 := by simpa using h
  refine oj_run TT rfl ?_
  skip
  refine oj_callP rfl rfl rfl rfl rfl Tryd.call25 (by (repeat' (first | exact trivial | exact vCells_lt _ _ _ _ _ _ | constructor))) (Count_c g σ _ V.rep (by omega)) fun v hv => ⟨.a (.v (.int .i64 (cntV g))), trivial, hv.symm, ?_⟩
  refine oj_run TT rfl ?_
  (repeat refine oj_then ?_)
  refine cj_if rfl (fun h => ?_) (fun h => ?_)
  · (repeat (first | refine cj_seq ?_ | (refine cj_region ?_; refine oj_run TT rfl ?_) | refine oj_then ?_ | refine cj_ret ?_ | refine nj_then_ret ?_))
    refine nj_ret TT rfl fun β w' _ _ => ?_
    rfl
  have hc120 : (cntV g : Int) ≤ 120 := by have := of_decide_eq_false h; omega
  have hmask := bAnd_le gap 31 (by omega) (by omega)
  (repeat (first | refine cj_seq ?_ | (refine cj_region ?_; refine oj_run TT rfl ?_) | refine cj_skip ?_ | refine nj_then ?_ | (refine oj_band rfl rfl rfl rfl rfl rfl ?_; refine oj_run TT rfl ?_) | (refine oj_add rfl rfl rfl rfl rfl rfl (by omega) ?_; refine oj_run TT rfl ?_)))
  generalize bAnd .i64 gap 31 = j at hmask ⊢
  skip
  refine oj_callS rfl rfl rfl rfl rfl Tryd.call21 ⟨vCells_lt _ _ _ _ _ _, trivial, trivial⟩ (Shred_s σ g _ (1 + j) V.rep (by omega)) fun v σ1 hle1 ⟨ao, cap, hv, H⟩ => ⟨.tup [.a (.v (.slice ao (shredG g (1 + j)).1.length cap)), .a (.v (.int .i64 (shredG g (1 + j)).2))], (by (repeat' (first | exact trivial | refine SV.lt_tup ?_ | constructor))), hv.symm, ?_⟩
  rw [shredG_k (by omega) (by omega), if_neg (by simp [hs])] at H ⊢
  dsimp only at H ⊢
  have hcnt := shredV_cnt (1 + j) g 0 false emptyS 0 V.rep.wf
  obtain ⟨hlen1, hlen2⟩ := shredV_len (1 + j) g 0 false emptyS 0
  have hfit := shredV_fit (1 + j) g _ 0 false emptyS 0 V.rep (by decide)
  have hkk : (1 + j) * (cntV g : Int) ≤ 32 * 120 := Int.mul_le_mul (by omega) (by omega) (by omega) (by omega)
  have hbd : buildR (shredV (1 + j) g 0 false emptyS 0).1 = (g, 0) := by
    have := buildR_shred (φ := fun x => x) (fun a b _ h => h) (gap := 1 + j) (by omega) (by omega) g V.rep.wf hs (by omega) (by rw [hlen2, hcnt, Int.mul_assoc]; omega)
    rw [stE_id, List.map_id] at this
    exact this
  have hBG : buildG (shredV (1 + j) g 0 false emptyS 0).1 = (g, []) := by
    have := build_shred (fun x => x) (1 + j) g false emptyS 0 V.rep.wf
    rw [stE_id, List.map_id] at this
    exact this
  have hsound : soundG (shredV (1 + j) g 0 false emptyS 0).1 = true := by
    unfold soundG
    rw [hbd]
    rfl
  obtain ⟨hT1, hT2⟩ := shred_tree (gap := 1 + j) (by omega) g 0 false emptyS V.rep.wf
  generalize (shredV (1 + j) g 0 false emptyS 0).1 = L at *
  have hpos := cntV_pos g
  rw [← hcnt] at hT1 hT2 hpos hc120
  refine oj_run TT rfl ?_
  (repeat (first | refine cj_seq ?_ | (refine cj_region ?_; refine oj_run TT rfl ?_) | refine oj_then ?_))
  refine oj_split 39 rfl (fun h => absurd h (by decide)) (fun h => ?_)
  refine oj_run TT rfl ?_
  (repeat refine oj_then ?_)
  refine cj_if rfl (fun h => ?_) (fun h => ?_)
  · have := of_decide_eq_true h
    omega
  (repeat (first | refine cj_seq ?_ | (refine cj_region ?_; refine oj_run TT rfl ?_) | refine cj_skip ?_ | refine nj_then ?_))
  have R : RecsOk L := ⟨by simp only [mostLen]; omega, hfit, fun _ => by rw [hBG]; show g.weight ≤ _; omega⟩
  refine oj_makeSlice TT rfl rfl rfl rfl rfl rfl rfl rfl rfl rfl rfl rfl trivial (by show L.length * 8 ≤ _; omega) (by omega) fun gm => ?_
  have hz : ∀ n : Nat, List.replicate n (Value.int .i64 0) = intVs' (metK (L.map se) n 0 []) := fun n => by rw [metK_zero]; unfold intVs'; rw [List.map_replicate]; rfl
  refine oj_run TT rfl ?_
  (repeat (first | refine cj_seq ?_ | (refine cj_region ?_; refine oj_run TT rfl ?_) | refine oj_then ?_ | refine cj_block ?_))
  refine cj_cutB (fun (s : Snap) => s) (fun _ => [(5, .a .tt), (8, .a (.v (.slice (some ⟨gm, 0, none⟩) L.length L.length)))]) (fun _ => []) (fun _ => [mtE gm L.length (metK (L.map se) L.length L.length [])]) 0 (fun s => σ1.le s) ?_ (fun s hs1 => ?_)
  · refine cj_loop2 (fun (s : Snap) (_ : Nat) => s) (fun _ i => [(5, .a .tt), (6, .a (.v (.slice ao L.length cap))), (8, .a (.v (.slice (some ⟨gm, 0, none⟩) L.length L.length))), (9, .a (.v (.int .i64 (i : Int))))]) (fun _ _ => [])
      (fun _ i => [mtE gm L.length (metK (L.map se) L.length i [])]) 0 (fun s i => i ≤ L.length ∧ σ1.le s) (fun _ i => L.length - i) σ1 0 ⟨Nat.zero_le _, Snap.le_refl _⟩ rfl (by (repeat (first | exact trivial | refine And.intro rfl ?_))) (by (repeat (first | exact trivial | refine And.intro rfl ?_))) (by unfold mtE; rw [← hz]; rfl) (by (repeat' (first | exact trivial | constructor))) (by (repeat' exact trivial)) fun s i ⟨hi, hs⟩ => ?_
    have H := H.mono hs
    (repeat (first | refine cj_seq ?_ | (refine cj_region ?_; refine oj_run TT rfl ?_) | refine oj_then ?_))
    refine cj_if rfl (fun h => ?_) (fun h => ?_)
    rotate_left
    · have hi0 : i = L.length := by have := of_decide_eq_false h; omega
      subst hi0
      (repeat (first | refine cj_exit ?_ | refine nj_then_exit ?_ | refine nj_block_out ?_))
      refine nj_again s hs Nat.zero_lt_one rfl (by (repeat (first | exact trivial | refine And.intro rfl ?_))) (by (repeat (first | exact trivial | refine And.intro rfl ?_))) rfl (by (repeat' (first | exact trivial | constructor))) (by (repeat' exact trivial))
    have hil : i < L.length := by have := of_decide_eq_true h; omega
    obtain ⟨y, hy1, hy2⟩ := hT1 i (by omega)
    have hrow := recRows_get (List.getElem?_eq_getElem hil)
    have hy : y = se L[i] := by
      rw [List.getElem?_map, List.getElem?_eq_getElem hil] at hy1
      exact (Option.some.inj hy1).symm
    subst hy
    have hkids := Kids_c s L R ao cap H i hil hsound (by omega)
    rw [kidsG_se] at hkids
    generalize L[i] = x at *
    (repeat (first | refine cj_seq ?_ | (refine cj_region ?_; refine oj_run TT rfl ?_) | refine cj_skip ?_ | refine cj_block ?_ | refine nj_then ?_))
    refine oj_callS rfl rfl rfl rfl rfl Tryd.call26 ⟨trivial, trivial, trivial⟩ hkids fun v σ2 hle2 ⟨oo, oc, hv, HK⟩ => ⟨.a (.v (.slice oo (kidsAt (L.map se) i).length oc)), trivial, hv.symm, ?_⟩
    have H := H.mono hle2
    have hs2 := Snap.le_trans hs hle2
    have hnext := metK_next (L.map se) L.length i
    have hsum1 : ∀ m, sumP (L.map se) m 0 i + (kidsAt (L.map se) i).count m ≤ 1 := fun m => by
      have e1 : sumP (L.map se) m 0 (i + 1) = sumP (L.map se) m 0 i + (kidsAt (L.map se) i).count m := by
        show sumP (L.map se) m 0 i + (kidsAt (L.map se) (0 + i)).count m = _
        rw [Nat.zero_add]
      have e2 := sumP_add (L.map se) m 0 (i + 1) (L.length - (i + 1))
      rw [show i + 1 + (L.length - (i + 1)) = L.length by omega, hT2 m] at e2
      have e3 : ind 1 L.length m ≤ 1 := by unfold ind; split <;> omega
      omega
    have hklen : (kidsAt (L.map se) i).length ≤ L.length := by
      rw [← kidsG_se]
      unfold kidsG
      exact Nat.le_trans (kidsF_len L _ L.length (i + 1)) (Nat.sub_le _ _)
    generalize kidsAt (L.map se) i = ks at *
    refine oj_run TT rfl ?_
    (repeat (first | refine cj_seq ?_ | (refine cj_region ?_; refine oj_run TT rfl ?_) | refine oj_then ?_))
    refine oj_idx TT rfl rfl rfl rfl rfl rfl rfl rfl rfl H (by omega) hrow (oj_run TT rfl ?_)
    (repeat (first | refine cj_seq ?_ | (refine cj_region ?_; refine oj_run TT rfl ?_) | refine oj_then ?_ | refine cj_block ?_))
    refine cj_loop2 (fun _ _ => σ2) (fun (k : Nat) (last : Int) => [(5, .a .tt), (6, .a (.v (.slice ao L.length cap))), (8, .a (.v (.slice (some ⟨gm, 0, none⟩) L.length L.length))), (9, .a (.v (.int .i64 (i : Int)))), (10, .a (.v (.slice oo ks.length oc))), (11, .a (.v (.int .i64 last))), (12, .a (.v (.int .i64 (k : Int))))]) (fun _ _ => [])
      (fun k _ => [mtE gm L.length (metK (L.map se) L.length i (ks.take k))]) 0 (fun k last => k ≤ ks.length ∧ chain (L.map se) x.en last (ks.drop k)) (fun k _ => ks.length - k) 0 x.st ⟨Nat.zero_le _, hy2⟩ rfl (by (repeat (first | exact trivial | refine And.intro rfl ?_))) (by (repeat (first | exact trivial | refine And.intro rfl ?_))) rfl (by (repeat' (first | exact trivial | constructor))) (by (repeat' exact trivial)) fun k last ⟨hk, hch⟩ => ?_
    (repeat (first | refine cj_seq ?_ | (refine cj_region ?_; refine oj_run TT rfl ?_) | refine oj_then ?_))
    refine cj_if rfl (fun h => ?_) (fun h => ?_)
    rotate_left
    · have hk0 : k = ks.length := by have := of_decide_eq_false h; omega
      subst hk0
      rw [List.take_length, hnext]
      (repeat (first | (refine cj_region ?_; refine oj_run TT rfl ?_) | refine oj_nil ?_ | refine cj_exit ?_ | refine nj_then ?_ | refine nj_then_exit ?_ | refine nj_block ?_ | refine nj_block_out ?_ | (refine oj_add rfl rfl rfl rfl rfl rfl (by omega) ?_; refine oj_run TT rfl ?_)))
      refine nj_again (σ2, i + 1) ⟨hil, hs2⟩ (by dsimp only; omega) rfl (by (repeat (first | exact trivial | refine And.intro rfl ?_))) (by (repeat (first | exact trivial | refine And.intro rfl ?_))) rfl (by (repeat' (first | exact trivial | constructor))) (by (repeat' exact trivial))
    have hkl : k < ks.length := by have := of_decide_eq_true h; omega
    have hkr : (kidRows ks)[k]? = some [.v (.int .i64 (ks[k] : Nat))] := by unfold kidRows; rw [List.getElem?_map, List.getElem?_eq_getElem hkl]; rfl
    have htake : ks.take (k + 1) = ks.take k ++ [ks[k]] := List.take_succ_eq_append_getElem hkl
    rw [List.drop_eq_getElem_cons hkl] at hch
    generalize ks[k] = m at *
    obtain ⟨y, hm1, hm2, hm3, hch⟩ := hch
    have hml : m < L.length := by
      have := (List.getElem?_eq_some_iff.1 hm1).1
      rwa [List.length_map] at this
    have hrowm := recRows_get (List.getElem?_eq_getElem hml)
    have hy : y = se L[m] := by
      rw [List.getElem?_map, List.getElem?_eq_getElem hml] at hm1
      exact (Option.some.inj hm1).symm
    subst hy
    generalize L[m] = z at *
    have hm2 : last < z.st := hm2
    have hm3 : z.en < x.en := hm3
    (repeat (first | refine cj_seq ?_ | refine cj_skip ?_ | refine cj_block ?_ | refine nj_then ?_))
    refine cj_draw [(0,.pure),(1,.pure),(2,.pure),(3,.quiet),(4,.pure),(5,.pure),(6,.pure),(7,.pure),(8,.pure),(9,.quiet),(10,.pure),(11,.pure),(12,.pure),(13,.pure),(14,.pure),(15,.pure),(16,.pure),(17,.pure),(18,.pure),(19,.quiet),(20,.pure),(21,.pure),(22,.quiet),(23,.pure),(24,.pure),(25,.pure),(26,.pure),(27,.pure),(28,.pure),(29,.pure),(30,.pure),(31,.quiet),(32,.pure),(33,.pure),(34,.quiet),(35,.pure),(36,.pure),(37,.pure),(38,.pure),(39,.quiet),(40,.pure),(41,.pure)] mixed (by kernel_rfl) (oj_run TT rfl ?_)
    refine oj_idx TT rfl rfl rfl rfl rfl rfl rfl rfl rfl HK (by omega) hkr (oj_run TT rfl ?_)
    skip
    refine oj_split 72 rfl (fun h => absurd (of_decide_eq_true h) (by omega)) (fun _ => ?_)
    refine oj_run TT rfl ?_
    refine oj_idx TT rfl rfl rfl rfl rfl rfl rfl rfl rfl HK (by omega) hkr (oj_run TT rfl ?_)
    skip
    refine oj_split 81 rfl (fun h => absurd (of_decide_eq_true h) (by omega)) (fun _ => ?_)
    refine oj_run TT rfl ?_
    refine oj_idx TT rfl rfl rfl rfl rfl rfl rfl rfl rfl HK (by omega) hkr (oj_run TT rfl ?_)
    refine oj_idx TT rfl rfl rfl rfl rfl rfl rfl rfl rfl H (by omega) hrowm (oj_run TT rfl ?_)
    skip
    refine oj_split 93 rfl (fun h => absurd (of_decide_eq_true h) (by omega)) (fun _ => ?_)
    refine oj_run TT rfl ?_
    refine oj_idx TT rfl rfl rfl rfl rfl rfl rfl rfl rfl HK (by omega) hkr (oj_run TT rfl ?_)
    refine oj_idx TT rfl rfl rfl rfl rfl rfl rfl rfl rfl H (by omega) hrowm (oj_run TT rfl ?_)
    refine oj_idx TT rfl rfl rfl rfl rfl rfl rfl rfl rfl H (by omega) hrow (oj_run TT rfl ?_)
    (repeat refine oj_then ?_)
    refine cj_if rfl (fun h => absurd (of_decide_eq_true h) (by omega)) (fun _ => ?_)
    (repeat (first | refine cj_seq ?_ | (refine cj_region ?_; refine oj_run TT rfl ?_) | refine cj_skip ?_ | refine nj_then ?_))
    refine oj_idx TT rfl rfl rfl rfl rfl rfl rfl rfl rfl HK (by omega) hkr (oj_run TT rfl ?_)
    refine oj_idx TT rfl rfl rfl rfl rfl rfl rfl rfl rfl H (by omega) hrowm (oj_run TT rfl ?_)
    (repeat (first | (refine cj_region ?_; refine oj_run TT rfl ?_) | refine oj_then ?_))
    refine oj_idx TT rfl rfl rfl rfl rfl rfl rfl rfl rfl HK (by omega) hkr (oj_run TT rfl ?_)
    skip
    have had : some (SV.a (AT.v (.pointer (some (Addr.add ⟨gm, 0, none⟩ ((m : Int).toNat * 1)))))) = some (SV.a (AT.v (.pointer (some ⟨gm, m, none⟩)))) := by
      rw [Int.toNat_natCast, Nat.mul_one, add0]
    have hget := metK_get (L.map se) L.length i (ks.take k) hml
    have hinc := metK_inc (L.map se) L.length i (ks.take k) m
    have hv1 : sumP (L.map se) m 0 i + (ks.take k).count m ≤ 1 := by
      have := hsum1 m
      have := (List.take_sublist k ks).count_le m
      omega
    generalize sumP (L.map se) m 0 i + (ks.take k).count m = v at hget hinc hv1
    have hget' : (intVs' (metK (L.map se) L.length i (ks.take k)))[m]? = some (.int .i64 v) := by unfold intVs'; rw [List.getElem?_map, hget]; rfl
    refine oj_indexAddr TT rfl rfl rfl rfl rfl rfl rfl rfl rfl ⟨by omega, by omega⟩ (oj_run TT rfl ?_)
    refine oj_ldA 0 (off := m) (c := .v (.int .i64 v)) TT rfl rfl rfl rfl rfl had rfl rfl rfl rfl hget' trivial (oj_run TT rfl ?_)
    refine oj_add rfl rfl rfl rfl rfl rfl ?_ (oj_run TT rfl ?_)
    · omega
    refine oj_indexAddr TT rfl rfl rfl rfl rfl rfl rfl rfl rfl ⟨by omega, by omega⟩ (oj_run TT rfl ?_)
    refine oj_stA 0 (off := m) (A' := [mtE gm L.length (metK (L.map se) L.length i (ks.take (k + 1)))]) TT rfl rfl rfl rfl had rfl rfl rfl rfl rfl (by show m < L.length * 1; omega) trivial rfl ?_ (oj_run TT rfl ?_)
    · show [_] = [_]
      rw [htake, ← hinc]
      unfold mtE intVs'
      rw [List.map_set]
      rfl
    (repeat (first | (refine cj_region ?_; refine oj_run TT rfl ?_) | refine oj_nil ?_ | refine nj_then ?_ | refine nj_block ?_ | (refine oj_add rfl rfl rfl rfl rfl rfl (by omega) ?_; refine oj_run TT rfl ?_)))
    refine nj_again (k + 1, z.en) ⟨hkl, hch⟩ (by dsimp only; omega) rfl (by (repeat (first | exact trivial | refine And.intro rfl ?_))) (by (repeat (first | exact trivial | refine And.intro rfl ?_))) rfl (by (repeat' (first | exact trivial | constructor))) (by (repeat' exact trivial))
  (repeat (first | refine cj_seq ?_ | (refine cj_region ?_; refine oj_run TT rfl ?_) | refine oj_then ?_ | refine cj_block ?_))
  refine cj_loop (fun (_ : Nat) => s) (fun i => [(5, .a .tt), (8, .a (.v (.slice (some ⟨gm, 0, none⟩) L.length L.length))), (13, .a (.v (.int .i64 (i : Int))))]) (fun _ => []) (fun _ => [mtE gm L.length (metK (L.map se) L.length L.length [])]) 0
    (fun i => i ≤ L.length) (fun i => L.length - i) 0 (Nat.zero_le _) rfl (by (repeat (first | exact trivial | refine And.intro rfl ?_))) (by (repeat (first | exact trivial | refine And.intro rfl ?_))) rfl (by (repeat' (first | exact trivial | constructor))) (by (repeat' exact trivial)) fun i hi => ?_
  (repeat (first | refine cj_seq ?_ | (refine cj_region ?_; refine oj_run TT rfl ?_) | refine oj_then ?_))
  refine cj_if rfl (fun h => ?_) (fun h => ?_)
  rotate_left
  · (repeat (first | refine cj_seq ?_ | (refine cj_region ?_; refine oj_run TT rfl ?_) | refine oj_then ?_ | refine cj_exit ?_ | refine cj_ret ?_ | refine nj_then ?_ | refine nj_then_exit ?_ | refine nj_block_out ?_))
    refine nj_ret TT rfl fun β w' _ _ => ?_
    rfl
  have hil : i < L.length := by have := of_decide_eq_true h; omega
  (repeat (first | refine cj_seq ?_ | (refine cj_region ?_; refine oj_run TT rfl ?_) | refine cj_skip ?_ | refine cj_block ?_ | refine nj_then ?_))
  have had : some (SV.a (AT.v (.pointer (some (Addr.add ⟨gm, 0, none⟩ ((i : Int).toNat * 1)))))) = some (SV.a (AT.v (.pointer (some ⟨gm, i, none⟩)))) := by
    rw [Int.toNat_natCast, Nat.mul_one, add0]
  have hget := metK_get (L.map se) L.length L.length [] hil
  rw [hT2 i, List.count_nil, Nat.add_zero] at hget
  have hget' : (intVs' (metK (L.map se) L.length L.length []))[i]? = some (.int .i64 (ind 1 L.length i : Nat)) := by unfold intVs'; rw [List.getElem?_map, hget]; rfl
  refine oj_indexAddr TT rfl rfl rfl rfl rfl rfl rfl rfl rfl ⟨by omega, by omega⟩ (oj_run TT rfl ?_)
  refine oj_ldA 0 (off := i) (c := .v (.int .i64 (ind 1 L.length i : Nat))) TT rfl rfl rfl rfl rfl had rfl rfl rfl rfl hget' trivial (oj_run TT rfl ?_)
  skip
  refine oj_mm rfl rfl rfl rfl rfl rfl rfl (oj_run TT rfl ?_)
  have hmin : (if true = true then (if (1 : Int) < i then (1 : Int) else i) else (if (1 : Int) > i then 1 else i)) = (ind 1 L.length i : Nat) := by
    rw [if_pos rfl]
    by_cases hi1 : 1 ≤ i
    · rw [ind_t ⟨hi1, hil⟩]
      split <;> omega
    · rw [ind_f (by omega), if_neg (by omega)]
      omega
  rw [hmin]
  (repeat refine oj_then ?_)
  refine cj_if rfl (fun h => absurd h (by simp)) (fun _ => ?_)
  (repeat (first | (refine cj_region ?_; refine oj_run TT rfl ?_) | refine oj_nil ?_ | refine cj_skip ?_ | refine nj_then ?_ | refine nj_block ?_ | (refine oj_add rfl rfl rfl rfl rfl rfl (by omega) ?_; refine oj_run TT rfl ?_)))
  refine nj_again (i + 1) hil (by omega) rfl (by (repeat (first | exact trivial | refine And.intro rfl ?_))) (by (repeat (first | exact trivial | refine And.intro rfl ?_))) rfl (by (repeat' (first | exact trivial | constructor))) (by (repeat' exact trivial))
end Go.Sy
/- A store of several cells into an own array. No program in sight. -/
namespace Go.Sy

theorem take_splice {α : Type} (l news : List α) (off N : Nat) (h : off + news.length ≤ N) (hl : N ≤ l.length) :
    (l.take off ++ news ++ l.drop (off + news.length)).take N = (l.take N).take off ++ news ++ (l.take N).drop (off + news.length) := by
  have h1 : (l.take off ++ news).length = off + news.length := by rw [List.length_append, List.length_take]; omega
  rw [List.take_append, h1, List.take_of_length_le (by omega), List.take_take, Nat.min_eq_left (by omega), List.drop_take]

section
variable {cf : Cf} {Q : Exit → Act → World → Prop} {σ : Snap} {env : Env} {hp : HP} {A : List AE} {nh : Nat} {it : Item} {rest : List Item}

theorem oj_stAs (i : Nat) {E : AE} {A' : List AE} {t : Nat} {x y : Operand} {T : List (Nat × TI)} (hT : TTok cf.P T) {ti : TI} {g off : Nat} {cs : List AT} (hop : it.o.op = .store t x y) (hd : it.o.dst = none) (hg : guardVal it.guard env = some true)
    (htag : canSink it.tag = true) (hx : evalO env x = some (.a (.v (.pointer (some ⟨g, off, none⟩))))) (hy : evalO env y = some (.agg cs)) (hi : A[i]? = some E) (hE : E.ao = some ⟨g, 0, none⟩) (ht : tget T t = some ti) (hsz : ti.size = cs.length)
    (hoff : off + cs.length ≤ E.n * E.sz) (hc : ∀ c ∈ cs, c.lt 0) (hone : cs.all AT.one = true)
    (hA : A.set i ⟨E.ao, E.n, E.cap, E.e, E.sz, E.xs.take off ++ cs.map AT.val ++ E.xs.drop (off + cs.length)⟩ = A') (k : OJ cf rest Q σ env hp A' nh) : OJ cf (it :: rest) Q σ env hp A nh := by
  subst hA
  refine ⟨fun hb a β ha hex => ?_⟩
  have key : ∀ w, StW cf σ hp A β w → ∀ Q', it.o.wq cf.P a w (fun a' w' => ∃ E' S' : World → Prop, S' w' ∧ (∀ x, S' x → E' x) ∧ RunT cf.P Q rest E' S' a') Q' := by
    intro w hw Q'
    obtain ⟨inf, d', z, hs⟩ := tiOf_spec (hT _ _ ht)
    have hx' : a.eval x = .pointer (some ⟨g, off, none⟩) := evalO_eval ha hx
    have hmap : cs.map (AT.den β) = cs.map AT.val := List.map_congr_left fun c h => AT.den_val (hc c h) β
    have hy' : a.eval y = .agg (cs.map AT.val).toArray := by
      rw [← hmap]
      exact evalO_eval ha hy
    have hE0 := hw.arr i E hi
    rcases hE0.2 with h1 | ⟨g', cur, h3, h4, h5, h6, h7, h8, h9, h10⟩
    · rw [h1.1] at hE; cases hE
    · rw [hE] at h3
      injection h3 with h3
      simp only [Addr.mk.injEq, and_true] at h3
      subst h3
      have hnc : E.n * E.sz ≤ E.cap * E.sz := Nat.mul_le_mul_right _ h5
      have hll : cur.toList.length = E.cap * E.sz := by rw [Array.length_toList, h7]
      have hst := run_storeCells_at cf.P g off E.e (cs.map AT.val) 0 cur w h4 (by simp only [List.length_map]; omega) (fun v hv => by
        obtain ⟨c, hc', rfl⟩ := List.mem_map.1 hv
        exact AT.one_den β0 (List.all_eq_true.1 hone c hc'))
      simp only [Nat.add_zero, List.length_map] at hst
      have hrun : (execOp a.eval it.o).run cf.P w = .ok .skip (w.setRow g (cur.toList.take off ++ cs.map AT.val ++ cur.toList.drop (off + cs.length)).toArray) := by
        have hsz' : inf.size = cs.length := by rw [hs.size, hsz]
        simp only [execOp, hop, Instr.storeAt, hx', hy', Instr.sureAddr, storeVar, Sem.run_bind, Sem.run_pure, Result.andThen_ok, Value.cells, run_size hs.info, hsz', List.size_toArray, List.length_map, ne_eq, not_true, if_false, Sem.run_ite, hst]
      unfold Oper.wq
      rw [hrun]
      have htk := take_splice cur.toList (cs.map AT.val) off (E.n * E.sz) (by simp only [List.length_map]; omega) (by omega)
      simp only [List.length_map] at htk
      have hxl : E.xs.length = E.n * E.sz := hE0.1
      have hw' := hw.setArr (E' := ⟨E.ao, E.n, E.cap, E.e, E.sz, E.xs.take off ++ cs.map AT.val ++ E.xs.drop (off + cs.length)⟩) (cur' := (cur.toList.take off ++ cs.map AT.val ++ cur.toList.drop (off + cs.length)).toArray) hi hE h4 rfl rfl rfl rfl h5
        (by simp only [List.length_append, List.length_take, List.length_drop, List.length_map]; omega) (by simp only [List.size_toArray, List.length_append, List.length_take, List.length_drop, List.length_map]; omega) (by rw [htk, h8])
      refine ⟨_, _, hw', fun _ h => h, ?_⟩
      rw [hd]
      exact k.run hb a β ha ⟨_, hw'⟩
  simp only [RunT]
  rw [if_pos (guardVal_ok ha hg)]
  cases htag' : it.tag with
  | pure => rw [htag'] at htag; cases htag
  | quiet => rw [htag'] at htag; cases htag
  | keep => rw [htag'] at htag; cases htag
  | sink => exact fun w hw => key w hw _
  | free => exact fun w hw => key w hw _
end
end Go.Sy
/- Calls that look at the call's own arrays, and leave them as they are. No program in sight. -/
namespace Go.Sy

theorem ArrSealed.mono {σ σ' : Snap} {E : AE} (h : ArrSealed σ E) (hle : σ.le σ') : ArrSealed σ' E := by
  rcases h with h | ⟨g, h1, h2⟩
  · exact .inl h
  · exact .inr ⟨g, h1, fun j x hx => hle.cell (h2 j x hx)⟩

section
variable {cf : Cf} {hp : HP} {β : Nat → Addr} {w w' : World}

/-- All arrays of one's own, sealed for the moment. -/
theorem StW.sealAll : ∀ {A : List AE} {σ : Snap}, StW cf σ hp A β w → ∃ σ', σ.le σ' ∧ (∀ (i : Nat) E, A[i]? = some E → ArrSealed σ' E) ∧ StW cf σ' hp [] β w
  | [], σ, h => ⟨σ, Snap.le_refl σ, fun i E hE => by simp at hE, h⟩
  | E :: A, σ, h => by
    obtain ⟨σ1, h1, h2, h3⟩ := h.sealArr (i := 0) (E := E) rfl
    obtain ⟨σ2, h4, h5, h6⟩ := StW.sealAll (A := A) h3
    refine ⟨σ2, Snap.le_trans h1 h4, fun i F hF => ?_, h6⟩
    cases i with
    | zero =>
      simp only [List.getElem?_cons_zero, Option.some.injEq] at hF
      subst hF
      exact h2.mono h4
    | succ i => exact h5 i F (by simpa using hF)

theorem ArrOk.weak {σ σ' : Snap} {E : AE} (h : ArrOk cf σ' w E) (hn : ∀ {b}, σ' b = none → σ b = none) : ArrOk cf σ w E := by
  refine ⟨h.1, h.2.imp id ?_⟩
  rintro ⟨g, cur, h3, h4, h5, h6, h7, h8, h9, h10⟩
  exact ⟨g, cur, h3, h4, h5, h6, h7, h8, hn h9, h10⟩

theorem StW.peeked {σ σ1 σ2 : Snap} {A A' : List AE} (h : StW cf σ hp A β w) (h1 : StW cf σ1 hp [] β w) (hle : σ.le σ1) (h' : StW ⟨cf.P, w, σ1, blks [], 0, [], none⟩ σ2 [] A' β0 w') : StW cf σ hp (A ++ A') β w' := by
  have t : StW cf σ2 hp (A' ++ []) β w' := StW.through (A0 := []) (Ar := []) h1 h'
  rw [List.append_nil] at t
  have hold : ∀ b, b < w.heap.size → w'.heap[b]? = w.heap[b]? := fun b hb => h'.fr b hb (by rintro ⟨E, hE, _⟩; cases hE)
  have hle2 : σ.le σ2 := Snap.le_trans hle h'.le
  have hn : ∀ {b}, σ2 b = none → σ b = none := fun hb => Snap.none_of_le hle2 hb
  have hget : ∀ {j : Nat} {E : AE}, (A ++ A')[j]? = some E → (j < A.length ∧ A[j]? = some E) ∨ (A.length ≤ j ∧ A'[j - A.length]? = some E) := by
    intro j E hj
    by_cases hlt : j < A.length
    · rw [List.getElem?_append_left hlt] at hj; exact .inl ⟨hlt, hj⟩
    · rw [List.getElem?_append_right (by omega)] at hj; exact .inr ⟨by omega, hj⟩
  have old : ∀ {j : Nat} {E : AE} {b : Nat}, A[j]? = some E → E.blk = some b → b < w.heap.size := fun hE hb => ((h.arr _ _ hE).lt hb).1
  have new : ∀ {j : Nat} {E : AE} {b : Nat}, A'[j]? = some E → E.blk = some b → w.heap.size ≤ b := by
    intro j E b hE hb
    rcases ((h'.arr _ _ hE).lt hb).2.2 with h1 | ⟨F, hF, _⟩
    · exact h1
    · cases hF
  refine ⟨t.os, t.tape, t.output, t.size, t.fr, fun b o hb => t.sealed b o (hle2 b o hb), h.le, h.grow, fun i e cs hi => ?_, h.ro, h.inj, fun i E hE => ?_, fun i j E F hE hF hij g hg => ?_, fun i j E e cs hE hj => ?_⟩
  · obtain ⟨q1, q2, q3, q4⟩ := t.loc i e cs hi
    exact ⟨q1, q2, hn q3, q4⟩
  · rcases hget hE with ⟨_, hE⟩ | ⟨_, hE⟩
    · exact (h.arr i E hE).keep fun g hg => hold g (old hE hg)
    · exact (t.arr _ E hE).weak hn
  · rcases hget hE with ⟨_, hE⟩ | ⟨_, hE⟩ <;> rcases hget hF with ⟨_, hF⟩ | ⟨_, hF⟩
    · exact h.arrd i j E F hE hF hij g hg
    · intro hc
      have := old hE hg
      have := new hF hc
      omega
    · intro hc
      have := new hE hg
      have := old hF hc
      omega
    · exact t.arrd _ _ E F hE hF (by omega) g hg
  · rcases hget hE with ⟨_, hE⟩ | ⟨_, hE⟩
    · exact h.arrh i j E e cs hE hj
    · exact t.arrh _ j E e cs hE hj
end

theorem FnC.ofPure {P : Program} {f : FuncId} {args : Array Value} {σ : Snap} {Φ : Value → Snap → Prop} (h : PureC P f args σ Φ) : FnC P f args σ [] (fun v σ' A' => Φ v σ' ∧ A' = []) := by
  intro w hw
  refine Calls.mono (h w hw.sealed) fun e w' ⟨v, σ', he, h1, h2, h3, h4⟩ => ?_
  rw [blks_nil]
  refine ⟨v, σ', he, h1, h2, h3, [], ⟨h4, rfl⟩, ?_⟩
  rw [blks_nil]
  exact (StW.start (M := fun _ => False) hw.sealed β0).after h1 h2 h3

section
variable {cf : Cf} {Q : Exit → Act → World → Prop} {σ : Snap} {env : Env} {hp : HP} {A : List AE} {nh : Nat} {it : Item} {rest : List Item}

/-- A call that looks at the call's own arrays; it hands out new ones. -/
theorem oj_peekF {d : Nat} {f : FuncId} {ys : List SV} {Φ : Value → List AE → Prop}
    (hc : callee env it.o.op = some (f, ys)) (hd : it.o.dst = some d) (hg : guardVal it.guard env = some true)
    (hN : Nat.blt d cf.N = true) (htag : canSink it.tag = true) (hcall : ∀ args w, (callFunc f args).run cf.P w = .ok (.enter f args) w) (hlt : LtAll ys)
    (hC : ∀ σ', σ.le σ' → (∀ (i : Nat) E, A[i]? = some E → ArrSealed σ' E) → FnS cf.P f ys σ' [] (fun v _ A' => Φ v A'))
    (k : ∀ v A', Φ v A' → ∃ y : SV, y.lt 0 ∧ y.den β0 = v ∧ OJ cf rest Q σ ((d, y) :: env) hp (A ++ A') nh) : OJ cf (it :: rest) Q σ env hp A nh := by
  refine ⟨fun hb a β ha hex => ?_⟩
  have hN' : d < cf.N := by simpa [Nat.blt_eq] using hN
  have den0 : ∀ {y : SV}, y.lt 0 → y.den β = y.den β0 := fun hy => SV.den_congr (n := 0) (fun i hi => by omega) hy
  have hargs : (ys.map (SV.den β)).toArray = (ys.map (SV.den β0)).toArray := by
    rw [List.map_congr_left fun y hy => den0 (hlt.of y hy)]
  have key : ∀ w, StW cf σ hp A β w → ∀ Q', it.o.wq cf.P a w (fun a' w' => ∃ E' S' : World → Prop, S' w' ∧ (∀ x, S' x → E' x) ∧ RunT cf.P Q rest E' S' a') Q' := by
    intro w hw Q'
    obtain ⟨σ1, hle, hS, hw1⟩ := hw.sealAll
    have hw2 : StW cf σ1 hp ([] ++ []) β w := hw1
    unfold Oper.wq
    rw [callee_ok ha hc hcall]
    simp only [Oper.uponIn]
    rw [hargs]
    refine ⟨fun h => (by cases h), CallsIn.mono (callsIn_FR.2 (hC σ1 hle hS w hw2.handIn)) fun e w' ⟨v, σ', he, h1, h2, h3, A', h4, h5⟩ => ?_⟩
    subst he
    obtain ⟨y, hy, hyv, hk⟩ := k v A' h4
    have hw' := hw.peeked hw1 hle h5
    refine ⟨_, _, hw', fun _ h => h, ?_⟩
    have := hk.run (hb.put (SV.lt_mono (Nat.zero_le _) hy) d) (a.put (some d) (y.den β)) β (ha.put hN' y) ⟨_, hw'⟩
    rw [hd, ← hyv, ← den0 hy]
    exact this
  simp only [RunT]
  rw [if_pos (guardVal_ok ha hg)]
  cases htag' : it.tag with
  | pure => rw [htag'] at htag; cases htag
  | quiet => rw [htag'] at htag; cases htag
  | keep => rw [htag'] at htag; cases htag
  | sink => exact fun w hw => key w hw _
  | free => exact fun w hw => key w hw _

/-- The same, where the answer bears no memory. -/
theorem oj_peekP {d : Nat} {f : FuncId} {ys : List SV} {Φ : Value → Prop}
    (hc : callee env it.o.op = some (f, ys)) (hd : it.o.dst = some d) (hg : guardVal it.guard env = some true)
    (hN : Nat.blt d cf.N = true) (htag : canSink it.tag = true) (hcall : ∀ args w, (callFunc f args).run cf.P w = .ok (.enter f args) w) (hlt : LtAll ys)
    (hC : ∀ σ', σ.le σ' → (∀ (i : Nat) E, A[i]? = some E → ArrSealed σ' E) → PlainS cf.P f ys σ' Φ)
    (k : ∀ v, Φ v → ∃ y : SV, y.lt 0 ∧ y.den β0 = v ∧ OJ cf rest Q σ ((d, y) :: env) hp A nh) : OJ cf (it :: rest) Q σ env hp A nh := by
  refine oj_peekF (Φ := fun v A' => Φ v ∧ A' = []) hc hd hg hN htag hcall hlt (fun σ' h1 h2 => FnC.ofPure (hC σ' h1 h2)) fun v A' ⟨h1, h2⟩ => ?_
  subst h2
  rw [List.append_nil]
  exact k v h1

/-- Two texts, one behind the other. -/
theorem oj_strcat {d : Nat} {x y : Operand} {xt yt : TypeId} {s t : ByteArray} (hop : it.o.op = .binOp .add xt x y yt) (hd : it.o.dst = some d) (hg : guardVal it.guard env = some true) (hN : Nat.blt d cf.N = true)
    (hx : evalO env x = some (.a (.v (.string s)))) (hy : evalO env y = some (.a (.v (.string t)))) (hb : s.size + t.size ≤ 9223372036854775807)
    (hk : OJ cf rest Q σ ((d, .a (.v (.string (s ++ t)))) :: env) hp A nh) : OJ cf (it :: rest) Q σ env hp A nh := by
  refine oj_val (.a (.v (.string (s ++ t)))) hd hg hN trivial (fun _ a β ha w => ?_) hk
  have h1 : a.eval x = .string s := evalO_eval ha hx
  have h2 : a.eval y = .string t := evalO_eval ha hy
  have h3 : ¬ ((s.size + t.size : Nat) : Int) > IntKind.i64.max := by
    show ¬ ((s.size + t.size : Nat) : Int) > 9223372036854775807
    omega
  simp only [execOp, hop, h1, h2]
  rw [Sem.run_bind]
  have : ∀ P : Program, (do eqGuard .add xt x y (.string s) (.string t); binOp .add xt (.string s) (.string t) : Sem Value).run P w = .ok (.string (s ++ t)) w := by
    intro P
    simp only [eqGuard, binOp, Op.stringOp, if_neg h3, Sem.run_bind, Sem.run_pure]
    rfl
  rw [this]
  rfl
end
end Go.Sy
namespace Go.Sy
open Go.Proofs

/-! ### Steps as texts -/

def strRows (l : List ByteArray) : List (List AT) := l.map fun s => [.v (.string s)]
theorem strRows_get {l : List ByteArray} {i : Nat} {s : ByteArray} (h : l[i]? = some s) : (strRows l)[i]? = some [.v (.string s)] := by unfold strRows; rw [List.getElem?_map, h]; rfl

theorem take_succ_eq {α : Type} {a b : List α} {k : Nat} (h : a.take k = b.take k) (ha : k < a.length) (hb : k < b.length) : a.take (k + 1) = b.take (k + 1) ↔ a[k] = b[k] := by
  rw [List.take_succ_eq_append_getElem ha, List.take_succ_eq_append_getElem hb, h, List.append_cancel_left_eq, List.cons.injEq]
  simp

set_option maxRecDepth 100000 in
set_option maxHeartbeats 1000000 in
theorem Equal_c (σ : Snap) (a b : List ByteArray) (hl : a.length ≤ 140737488355328) (ao bo : Option Addr) (ac bc : Nat) (HA : SlAt σ ao a.length ac 1 (strRows a)) (HB : SlAt σ bo b.length bc 1 (strRows b)) :
    PlainS Tryd.prog 99 [.a (.v (.slice ao a.length ac)), .a (.v (.slice bo b.length bc))] σ (fun x => x = .bool (decide (a = b))) := by
  refine enter_p Tryd.func99 rfl rfl (by (repeat' (first | exact trivial | constructor))) fun w => ?_
  (repeat (first | refine cj_seq ?_ | (refine cj_region ?_; refine oj_run TT rfl ?_) | refine oj_then ?_))
  refine cj_if rfl (fun h => ?_) (fun h => ?_)
  · have h : ¬ (a.length : Int) = b.length := by simpa using h
    (repeat (first | refine cj_seq ?_ | (refine cj_region ?_; refine oj_run TT rfl ?_) | refine oj_then ?_ | refine cj_ret ?_ | refine nj_then_ret ?_))
    refine nj_ret TT rfl fun β w' _ _ => ?_
    rw [decide_eq_false (fun e => h (by rw [e]))]
    rfl
  have hlen : a.length = b.length := by
    have h : (a.length : Int) = b.length := by simpa using h
    omega
  (repeat (first | refine cj_seq ?_ | (refine cj_region ?_; refine oj_run TT rfl ?_) | refine oj_then ?_ | refine cj_skip ?_ | refine cj_block ?_ | refine nj_then ?_))
  refine cj_loop (fun (_ : Nat) => σ) (fun k => [(0, .a (.v (.slice ao a.length ac))), (1, .a (.v (.slice bo b.length bc))), (12, .a (.v (.int .i64 a.length))), (13, .a (.v (.int .i64 k)))]) (fun _ => []) (fun _ => []) 0
    (fun k => k ≤ a.length ∧ a.take k = b.take k) (fun k => a.length - k) 0 ⟨Nat.zero_le _, rfl⟩ rfl (by (repeat (first | exact trivial | refine And.intro rfl ?_))) (by (repeat (first | exact trivial | refine And.intro rfl ?_))) rfl (by (repeat' (first | exact trivial | constructor))) (by (repeat' exact trivial)) fun k ⟨hk, hp⟩ => ?_
  (repeat (first | refine cj_seq ?_ | (refine cj_region ?_; refine oj_run TT rfl ?_) | refine oj_then ?_))
  refine cj_if rfl (fun h => ?_) (fun h => ?_)
  rotate_left
  · have hk0 : k = a.length := by have := of_decide_eq_false h; omega
    subst hk0
    rw [List.take_length, hlen, List.take_length] at hp
    (repeat (first | refine cj_seq ?_ | (refine cj_region ?_; refine oj_run TT rfl ?_) | refine oj_then ?_ | refine cj_exit ?_ | refine cj_ret ?_ | refine nj_then ?_ | refine nj_then_exit ?_ | refine nj_block_out ?_))
    refine nj_ret TT rfl fun β w' _ _ => ?_
    rw [decide_eq_true hp]
    rfl
  have hkl : k < a.length := by have := of_decide_eq_true h; omega
  have hkl' : k < b.length := by omega
  have hra := strRows_get (List.getElem?_eq_getElem hkl)
  have hrb := strRows_get (List.getElem?_eq_getElem hkl')
  have hne : a[k] ≠ b[k] → a ≠ b := fun hn e => hn (by subst e; rfl)
  have hiff := take_succ_eq hp hkl hkl'
  generalize a[k] = x at *
  generalize b[k] = y at *
  (repeat (first | refine cj_seq ?_ | (refine cj_region ?_; refine oj_run TT rfl ?_) | refine oj_then ?_ | refine cj_skip ?_ | refine cj_block ?_ | refine nj_then ?_))
  refine cj_draw [(0,.pure),(1,.pure),(2,.pure),(3,.quiet),(4,.pure),(5,.pure),(6,.pure),(7,.quiet),(8,.pure)] mixed (by kernel_rfl) (oj_run TT rfl ?_)
  refine oj_idx TT rfl rfl rfl rfl rfl rfl rfl rfl rfl HA (by omega) hra (oj_run TT rfl ?_)
  refine oj_idx TT rfl rfl rfl rfl rfl rfl rfl rfl rfl HB (by omega) hrb (oj_run TT rfl ?_)
  (repeat refine oj_then ?_)
  refine cj_if rfl (fun h => ?_) (fun h => ?_)
  · have h : ¬ x = y := by simpa using h
    (repeat (first | refine cj_seq ?_ | (refine cj_region ?_; refine oj_run TT rfl ?_) | refine oj_then ?_ | refine cj_ret ?_ | refine nj_then_ret ?_ | refine nj_block_ret ?_))
    refine nj_ret TT rfl fun β w' _ _ => ?_
    rw [decide_eq_false (hne h)]
    rfl
  · have h : x = y := by simpa using h
    (repeat (first | (refine cj_region ?_; refine oj_run TT rfl ?_) | refine oj_nil ?_ | refine cj_skip ?_ | refine nj_then ?_ | refine nj_block ?_ | (refine oj_add rfl rfl rfl rfl rfl rfl (by omega) ?_; refine oj_run TT rfl ?_)))
    refine nj_again (k + 1) ⟨hkl, hiff.2 h⟩ (by omega) rfl (by (repeat (first | exact trivial | refine And.intro rfl ?_))) (by (repeat (first | exact trivial | refine And.intro rfl ?_))) rfl (by (repeat' (first | exact trivial | constructor))) (by (repeat' exact trivial))

set_option maxRecDepth 100000 in
set_option maxHeartbeats 1000000 in
theorem SameSteps13_c (σ : Snap) (a b : List ByteArray) (hl : a.length ≤ 140737488355328) (ao bo : Option Addr) (ac bc : Nat) (HA : SlAt σ ao a.length ac 1 (strRows a)) (HB : SlAt σ bo b.length bc 1 (strRows b)) :
    PlainS Tryd.prog 54 [.a (.v (.slice ao a.length ac)), .a (.v (.slice bo b.length bc))] σ (fun x => x = .bool (decide (a = b))) := by
  refine enter_p Tryd.func54 rfl rfl (by (repeat' (first | exact trivial | constructor))) fun w => ?_
  (repeat (first | refine cj_seq ?_ | (refine cj_region ?_; refine oj_run TT rfl ?_) | refine oj_then ?_))
  refine cj_if rfl (fun h => ?_) (fun h => ?_)
  · have h : ¬ (a.length : Int) = b.length := by simpa using h
    (repeat (first | refine cj_seq ?_ | (refine cj_region ?_; refine oj_run TT rfl ?_) | refine oj_then ?_ | refine cj_ret ?_ | refine nj_then_ret ?_))
    refine nj_ret TT rfl fun β w' _ _ => ?_
    rw [decide_eq_false (fun e => h (by rw [e]))]
    rfl
  have hlen : a.length = b.length := by
    have h : (a.length : Int) = b.length := by simpa using h
    omega
  (repeat (first | refine cj_seq ?_ | (refine cj_region ?_; refine oj_run TT rfl ?_) | refine oj_then ?_ | refine cj_skip ?_ | refine cj_block ?_ | refine nj_then ?_))
  refine cj_loop (fun (_ : Nat) => σ) (fun k => [(0, .a (.v (.slice ao a.length ac))), (1, .a (.v (.slice bo b.length bc))), (5, .a (.v (.int .i64 k)))]) (fun _ => []) (fun _ => []) 0
    (fun k => k ≤ a.length ∧ a.take k = b.take k) (fun k => a.length - k) 0 ⟨Nat.zero_le _, rfl⟩ rfl (by (repeat (first | exact trivial | refine And.intro rfl ?_))) (by (repeat (first | exact trivial | refine And.intro rfl ?_))) rfl (by (repeat' (first | exact trivial | constructor))) (by (repeat' exact trivial)) fun k ⟨hk, hp⟩ => ?_
  (repeat (first | refine cj_seq ?_ | (refine cj_region ?_; refine oj_run TT rfl ?_) | refine oj_then ?_))
  refine cj_if rfl (fun h => ?_) (fun h => ?_)
  rotate_left
  · have hk0 : k = a.length := by have := of_decide_eq_false h; omega
    subst hk0
    rw [List.take_length, hlen, List.take_length] at hp
    (repeat (first | refine cj_seq ?_ | (refine cj_region ?_; refine oj_run TT rfl ?_) | refine oj_then ?_ | refine cj_exit ?_ | refine cj_ret ?_ | refine nj_then ?_ | refine nj_then_exit ?_ | refine nj_block_out ?_))
    refine nj_ret TT rfl fun β w' _ _ => ?_
    rw [decide_eq_true hp]
    rfl
  have hkl : k < a.length := by have := of_decide_eq_true h; omega
  have hkl' : k < b.length := by omega
  have hra := strRows_get (List.getElem?_eq_getElem hkl)
  have hrb := strRows_get (List.getElem?_eq_getElem hkl')
  have hne : a[k] ≠ b[k] → a ≠ b := fun hn e => hn (by subst e; rfl)
  have hiff := take_succ_eq hp hkl hkl'
  generalize a[k] = x at *
  generalize b[k] = y at *
  (repeat (first | refine cj_seq ?_ | refine cj_skip ?_ | refine cj_block ?_ | refine nj_then ?_))
  refine cj_draw [(0,.pure),(1,.pure),(2,.pure),(3,.quiet),(4,.pure),(5,.pure),(6,.pure),(7,.quiet),(8,.pure)] mixed (by kernel_rfl) (oj_run TT rfl ?_)
  refine oj_idx TT rfl rfl rfl rfl rfl rfl rfl rfl rfl HA (by omega) hra (oj_run TT rfl ?_)
  refine oj_idx TT rfl rfl rfl rfl rfl rfl rfl rfl rfl HB (by omega) hrb (oj_run TT rfl ?_)
  (repeat refine oj_then ?_)
  refine cj_if rfl (fun h => ?_) (fun h => ?_)
  · have h : ¬ x = y := by simpa using h
    (repeat (first | refine cj_seq ?_ | (refine cj_region ?_; refine oj_run TT rfl ?_) | refine oj_then ?_ | refine cj_ret ?_ | refine nj_then_ret ?_ | refine nj_block_ret ?_))
    refine nj_ret TT rfl fun β w' _ _ => ?_
    rw [decide_eq_false (hne h)]
    rfl
  · have h : x = y := by simpa using h
    (repeat (first | (refine cj_region ?_; refine oj_run TT rfl ?_) | refine oj_nil ?_ | refine cj_skip ?_ | refine nj_then ?_ | refine nj_block ?_ | (refine oj_add rfl rfl rfl rfl rfl rfl (by omega) ?_; refine oj_run TT rfl ?_)))
    refine nj_again (k + 1) ⟨hkl, hiff.2 h⟩ (by omega) rfl (by (repeat (first | exact trivial | refine And.intro rfl ?_))) (by (repeat (first | exact trivial | refine And.intro rfl ?_))) rfl (by (repeat' (first | exact trivial | constructor))) (by (repeat' exact trivial))

/-! ### Lines -/

structure GLine where
  id : Int
  ao : Option Addr
  cap : Nat
  st : List ByteArray
  cnt : Int

def lnCells (x : GLine) : List AT := [.v (.int .i64 x.id), .v (.slice x.ao x.st.length x.cap), .v (.int .i64 x.cnt)]
theorem lnCells_lt (n : Nat) (x : GLine) : ∀ c ∈ lnCells x, c.lt n := by simp [lnCells, AT.lt]
def lnRows (l : List GLine) : List (List AT) := l.map lnCells
theorem lnRows_get {l : List GLine} {i : Nat} {x : GLine} (h : l[i]? = some x) : (lnRows l)[i]? = some (lnCells x) := by unfold lnRows; rw [List.getElem?_map, h]; rfl
/-- A line's steps are there. -/
def LnOk (σ : Snap) (x : GLine) : Prop := x.st.length ≤ 140737488355328 ∧ SlAt σ x.ao x.st.length x.cap 1 (strRows x.st)
theorem LnOk.mono {σ σ' : Snap} {x : GLine} (h : LnOk σ x) (hle : σ.le σ') : LnOk σ' x := ⟨h.1, h.2.mono hle⟩

def findG {α : Type} (q : α → Bool) : List α → Nat → Int
  | [], _ => -1
  | x :: l, k => if q x then k else findG q l (k + 1)
theorem findG_bd {α : Type} (q : α → Bool) : ∀ (l : List α) (k : Nat), -1 ≤ findG q l k ∧ findG q l k < (k + l.length : Nat)
  | [], k => by simp only [findG, List.length_nil]; omega
  | x :: l, k => by
    have := findG_bd q l (k + 1)
    simp only [findG, List.length_cons]
    split <;> omega

set_option maxRecDepth 100000 in
set_option maxHeartbeats 1000000 in
theorem IndexFuncL_c (σ : Snap) (xs : List GLine) (hl : xs.length ≤ 140737488355328) (ao : Option Addr) (cap : Nat) (H : SlAt σ ao xs.length cap 3 (lnRows xs)) (f : FuncId) (caps : List PT) (hcap : LtAll (caps.map ptSV))
    (hcall : ∀ args w, (callFunc f args).run Tryd.prog w = .ok (.enter f args) w) (q : GLine → Bool) (hq : ∀ x ∈ xs, PlainS Tryd.prog f (.agg (lnCells x) :: caps.map ptSV) σ (fun v => v = .bool (q x))) (hlt : (SV.a (.fn (.func f) caps)).lt 0) :
    PlainS Tryd.prog 142 [.a (.v (.slice ao xs.length cap)), .a (.fn (.func f) caps)] σ (fun x => x = .int .i64 (findG q xs 0)) := by
  refine enter_p Tryd.func142 rfl rfl ⟨trivial, hlt, trivial⟩ fun w => ?_
  (repeat (first | refine cj_seq ?_ | (refine cj_region ?_; refine oj_run TT rfl ?_) | refine oj_then ?_ | refine cj_block ?_))
  refine cj_loop (fun (_ : Nat) => σ) (fun k => [(0, .a (.v (.slice ao xs.length cap))), (1, .a (.fn (.func f) caps)), (7, .a (.v (.int .i64 xs.length))), (8, .a (.v (.int .i64 k)))]) (fun _ => []) (fun _ => []) 0
    (fun k => k ≤ xs.length ∧ findG q (xs.drop k) k = findG q xs 0) (fun k => xs.length - k) 0 ⟨Nat.zero_le _, rfl⟩ rfl (by (repeat (first | exact trivial | refine And.intro rfl ?_))) (by (repeat (first | exact trivial | refine And.intro rfl ?_))) rfl ⟨trivial, hlt, trivial, trivial, trivial⟩ trivial fun k ⟨hk, hp⟩ => ?_
  (repeat (first | refine cj_seq ?_ | (refine cj_region ?_; refine oj_run TT rfl ?_) | refine oj_then ?_))
  refine cj_if rfl (fun h => ?_) (fun h => ?_)
  rotate_left
  · have hk0 : k = xs.length := by have := of_decide_eq_false h; omega
    subst hk0
    rw [List.drop_length] at hp
    (repeat (first | refine cj_seq ?_ | (refine cj_region ?_; refine oj_run TT rfl ?_) | refine oj_then ?_ | refine cj_exit ?_ | refine cj_ret ?_ | refine nj_then ?_ | refine nj_then_exit ?_ | refine nj_block_out ?_))
    refine nj_ret TT rfl fun β w' _ _ => ?_
    rw [← hp]
    rfl
  have hkl : k < xs.length := by have := of_decide_eq_true h; omega
  have hra := lnRows_get (List.getElem?_eq_getElem hkl)
  have hqx := hq xs[k] (List.getElem_mem hkl)
  rw [List.drop_eq_getElem_cons hkl, findG] at hp
  generalize xs[k] = x at *
  (repeat (first | refine cj_seq ?_ | (refine cj_region ?_; refine oj_run TT rfl ?_) | refine oj_then ?_ | refine cj_skip ?_ | refine cj_block ?_ | refine nj_then ?_))
  refine oj_idx TT rfl rfl rfl rfl rfl rfl rfl rfl rfl H (by omega) hra (oj_run TT rfl ?_)
  refine oj_callP (ys := .agg (lnCells x) :: caps.map ptSV) rfl rfl rfl rfl rfl hcall ⟨lnCells_lt 0 x, hcap⟩ hqx fun v hv => ⟨.a (.b (q x)), trivial, hv.symm, ?_⟩
  refine oj_run TT rfl ?_
  (repeat refine oj_then ?_)
  refine cj_if rfl (fun h => ?_) (fun h => ?_)
  · rw [h] at hp
    (repeat (first | refine cj_seq ?_ | (refine cj_region ?_; refine oj_run TT rfl ?_) | refine oj_then ?_ | refine cj_ret ?_ | refine nj_then_ret ?_ | refine nj_block_ret ?_))
    refine nj_ret TT rfl fun β w' _ _ => ?_
    rw [← hp]
    rfl
  · rw [h] at hp
    (repeat (first | (refine cj_region ?_; refine oj_run TT rfl ?_) | refine oj_nil ?_ | refine cj_skip ?_ | refine nj_then ?_ | refine nj_block ?_ | (refine oj_add rfl rfl rfl rfl rfl rfl (by omega) ?_; refine oj_run TT rfl ?_)))
    refine nj_again (k + 1) ⟨hkl, hp⟩ (by omega) rfl (by (repeat (first | exact trivial | refine And.intro rfl ?_))) (by (repeat (first | exact trivial | refine And.intro rfl ?_))) rfl ⟨trivial, hlt, trivial, trivial, trivial⟩ trivial

set_option maxRecDepth 100000 in
set_option maxHeartbeats 1000000 in
theorem where_c (σ : Snap) (xs : List GLine) (hl : xs.length ≤ 140737488355328) (ao : Option Addr) (cap : Nat) (next : Int) (H : SlAt σ ao xs.length cap 3 (lnRows xs)) (f : FuncId) (caps : List PT) (hcap : LtAll (caps.map ptSV))
    (hcall : ∀ args w, (callFunc f args).run Tryd.prog w = .ok (.enter f args) w) (q : GLine → Bool) (hq : ∀ x ∈ xs, PlainS Tryd.prog f (.agg (lnCells x) :: caps.map ptSV) σ (fun v => v = .bool (q x))) (hlt : (SV.a (.fn (.func f) caps)).lt 0) :
    PlainS Tryd.prog 125 [.agg [.v (.slice ao xs.length cap), .v (.int .i64 next)], .a (.fn (.func f) caps)] σ (fun x => x = .int .i64 (findG q xs 0)) := by
  refine enter_p Tryd.func125 rfl rfl ⟨(by (repeat' (first | exact trivial | refine AllLt.of ?_ | constructor))), hlt, trivial⟩ fun w => ?_
  (repeat (first | refine cj_seq ?_ | (refine cj_region ?_; refine oj_run TT rfl ?_) | refine oj_then ?_))
  refine oj_callP rfl rfl rfl rfl rfl Tryd.call142 ⟨trivial, hlt, trivial⟩ (IndexFuncL_c σ xs hl ao cap H f caps hcap hcall q hq hlt) fun v hv => ⟨.a (.v (.int .i64 (findG q xs 0))), trivial, hv.symm, ?_⟩
  refine oj_run TT rfl ?_
  (repeat (first | refine oj_then ?_ | refine cj_ret ?_))
  refine nj_ret TT rfl fun β w' _ _ => ?_
  rfl

def ptrTo (g : Nat) : PT := .val (.pointer (some ⟨g, 0, none⟩))
theorem fn_lt1 (f : Fn) (g n : Nat) : (SV.a (.fn f [ptrTo g])).lt n := by
  intro x hx
  rw [List.mem_singleton] at hx
  subst hx
  trivial

set_option maxRecDepth 100000 in
set_option maxHeartbeats 1000000 in
theorem line1_c (σ : Snap) (x : GLine) (hx : LnOk σ x) (s : List ByteArray) (so : Option Addr) (sc : Nat) (S : SlAt σ so s.length sc 1 (strRows s)) (g : Nat) (hg : σ.cell ⟨g, 0, none⟩ = some (.slice so s.length sc)) :
    PlainS Tryd.prog 126 (.agg (lnCells x) :: [ptrTo g].map ptSV) σ (fun v => v = .bool (decide (x.st = s))) := by
  refine enter_p Tryd.func126 rfl rfl ⟨lnCells_lt 0 x, trivial, trivial⟩ fun w => ?_
  (repeat (first | refine cj_seq ?_ | (refine cj_region ?_; refine oj_run TT rfl ?_) | refine oj_then ?_))
  refine oj_ldS (c := .v (.slice so s.length sc)) TT rfl rfl rfl rfl rfl rfl rfl rfl hg trivial (oj_run TT rfl ?_)
  refine oj_callP rfl rfl rfl rfl rfl Tryd.call99 (by (repeat' (first | exact trivial | constructor))) (Equal_c σ x.st s hx.1 x.ao so x.cap sc hx.2 S) fun v hv => ⟨.a (.b (decide (x.st = s))), trivial, hv.symm, ?_⟩
  refine oj_run TT rfl ?_
  (repeat (first | refine oj_then ?_ | refine cj_ret ?_))
  refine nj_ret TT rfl fun β w' _ _ => ?_
  rfl

/-- The place of the first line of these steps. -/
def lineG (xs : List GLine) (s : List ByteArray) : Int := findG (fun x => decide (x.st = s)) xs 0

set_option maxRecDepth 100000 in
set_option maxHeartbeats 1000000 in
theorem line_c (σ : Snap) (xs : List GLine) (hl : xs.length ≤ 140737488355328) (ao : Option Addr) (cap : Nat) (next : Int) (H : SlAt σ ao xs.length cap 3 (lnRows xs)) (hx : ∀ x ∈ xs, LnOk σ x)
    (s : List ByteArray) (so : Option Addr) (sc : Nat) (S : SlAt σ so s.length sc 1 (strRows s)) :
    PlainS Tryd.prog 92 [.agg [.v (.slice ao xs.length cap), .v (.int .i64 next)], .a (.v (.slice so s.length sc))] σ (fun v => v = .int .i64 (lineG xs s)) := by
  refine enter_p Tryd.func92 rfl rfl (by (repeat' (first | exact trivial | refine AllLt.of ?_ | constructor))) fun w => ?_
  (repeat (first | refine cj_seq ?_ | (refine cj_region ?_; refine oj_run TT rfl ?_) | refine oj_then ?_))
  refine oj_own 1 1 1 rfl (by (repeat' (first | exact trivial | refine AllLt.of ?_ | constructor))) rfl (by decide) fun g => ?_
  refine oj_seal 0 rfl rfl rfl fun σ1 hle1 hS => ?_
  have hg : σ1.cell ⟨g, 0, none⟩ = some (.slice so s.length sc) := by
    rcases hS with ⟨h, _⟩ | ⟨g', h1, h2⟩
    · cases h
    · obtain rfl : g = g' := by simpa using h1
      exact h2 0 _ rfl
  refine oj_callP rfl rfl rfl rfl rfl Tryd.call125 ⟨(by (repeat' (first | exact trivial | refine AllLt.of ?_ | constructor))), fn_lt1 (.func 126) g 0, trivial⟩ (where_c σ1 xs hl ao cap next (H.mono hle1) 126 [ptrTo g] ⟨trivial, trivial⟩ Tryd.call126 (fun x => decide (x.st = s)) (fun x hm => line1_c σ1 x ((hx x hm).mono hle1) s so sc (S.mono hle1) g hg) (fn_lt1 (.func 126) g 0)) fun v hv => ⟨.a (.v (.int .i64 (lineG xs s))), trivial, hv.symm, ?_⟩
  refine oj_run TT rfl ?_
  (repeat (first | refine oj_then ?_ | refine cj_ret ?_))
  refine nj_ret TT rfl fun β w' _ _ => ?_
  rfl
end Go.Sy
namespace Go.Sy
open Go.Proofs

/-! ### Lists of texts, lines as an array -/

structure SRow where
  ao : Option Addr
  cap : Nat
  ss : List ByteArray
def srCells (r : SRow) : List AT := [.v (.slice r.ao r.ss.length r.cap)]
def srRows (l : List SRow) : List (List AT) := l.map srCells
theorem srRows_get {l : List SRow} {i : Nat} {x : SRow} (h : l[i]? = some x) : (srRows l)[i]? = some (srCells x) := by unfold srRows; rw [List.getElem?_map, h]; rfl
def SrOk (σ : Snap) (x : SRow) : Prop := x.ss.length ≤ 140737488355328 ∧ SlAt σ x.ao x.ss.length x.cap 1 (strRows x.ss)
theorem SrOk.mono {σ σ' : Snap} {x : SRow} (h : SrOk σ x) (hle : σ.le σ') : SrOk σ' x := ⟨h.1, h.2.mono hle⟩

def lnXs (l : List GLine) : List Value := (lnRows l).flatten.map AT.val
def lnE (bo : Option Addr) (bc : Nat) (l : List GLine) : AE := ⟨bo, l.length, bc, 85, 3, lnXs l⟩
theorem lnXs_append (a b : List GLine) : lnXs (a ++ b) = lnXs a ++ lnXs b := by simp [lnXs, lnRows]
theorem lnRows_all (a : List GLine) : ∀ r ∈ lnRows a, r.length = 3 ∧ (∀ c ∈ r, c.lt 0) ∧ r.all AT.one = true := by
  intro r hr
  obtain ⟨x, _, rfl⟩ := List.mem_map.1 hr
  exact ⟨rfl, lnCells_lt 0 x, rfl⟩
theorem lnXs_get {l : List GLine} {i j : Nat} {r : GLine} {c : AT} (h : l[i]? = some r) (hj : (lnCells r)[j]? = some c) : (lnXs l)[i * 3 + j]? = some c.val := by
  unfold lnXs
  rw [List.getElem?_map, flat_get (sz := 3) (fun r hr => (lnRows_all l r hr).1) (lnRows_get h) hj]
  rfl
theorem lnXs_set {l : List GLine} {i j : Nat} {r r' : GLine} (c : AT) (h : l[i]? = some r) (hj : j < 3) (hr : (lnCells r).set j c = lnCells r') : (lnXs l).set (i * 3 + j) c.val = lnXs (l.set i r') := by
  unfold lnXs
  rw [← List.map_set, flat_set (sz := 3) (fun r hr => (lnRows_all l r hr).1) c (lnRows_get h) hj, hr]
  congr 2
  unfold lnRows
  rw [List.map_set]
theorem ln_sealed {σ : Snap} {bo : Option Addr} {bc : Nat} {l : List GLine} (h : ArrSealed σ (lnE bo bc l)) (hc : l.length ≤ bc) : SlAt σ bo l.length bc 3 (lnRows l) :=
  h.sl (E := lnE bo bc l) rfl (fun r hr => ⟨(lnRows_all l r hr).1, (lnRows_all l r hr).2.1⟩) (by simp [lnRows]) rfl hc

def idXs (l : List Int) : List Value := l.map fun k => Value.int .i64 k
def idRows (l : List Int) : List (List AT) := l.map fun k => [.v (.int .i64 k)]
def idE (bo : Option Addr) (bc : Nat) (l : List Int) : AE := ⟨bo, l.length, bc, 3, 1, idXs l⟩
theorem idRows_flat : ∀ o : List Int, idXs o = (idRows o).flatten.map AT.val
  | [] => rfl
  | k :: o => by
    show Value.int .i64 k :: idXs o = _
    rw [idRows_flat o]
    rfl
theorem idRows_get {l : List Int} {i : Nat} {x : Int} (h : l[i]? = some x) : (idRows l)[i]? = some [.v (.int .i64 x)] := by unfold idRows; rw [List.getElem?_map, h]; rfl
theorem id_sealed {σ : Snap} {oo : Option Addr} {oc : Nat} {o : List Int} (h : ArrSealed σ (idE oo oc o)) (hc : o.length ≤ oc) : SlAt σ oo o.length oc 1 (idRows o) :=
  h.sl (E := idE oo oc o) (idRows_flat o) (fun r hr => by
    obtain ⟨k, _, rfl⟩ := List.mem_map.1 hr
    exact ⟨rfl, fun c hc => by cases hc with | head => trivial | tail _ h => cases h⟩) (by simp [idRows]) rfl hc

set_option maxRecDepth 100000 in
set_option maxHeartbeats 1000000 in
theorem CloneLn_c (σ : Snap) (xs : List GLine) (hl : xs.length ≤ 1000000) (ao : Option Addr) (cap : Nat) (H : SlAt σ ao xs.length cap 3 (lnRows xs)) :
    FnS Tryd.prog 91 [.a (.v (.slice ao xs.length cap))] σ [] (fun v _ A' => ∃ bo bc, v = .slice bo xs.length bc ∧ xs.length ≤ bc ∧ A' = [lnE bo bc xs]) := by
  refine enter_f Tryd.func91 rfl rfl (by (repeat' (first | exact trivial | constructor))) fun w => ?_
  (repeat (first | refine cj_seq ?_ | (refine cj_region ?_; refine oj_run TT rfl ?_) | refine oj_then ?_ | (refine oj_slnil TT rfl rfl rfl rfl rfl rfl rfl rfl ?_; refine oj_run TT rfl ?_)))
  refine cj_if rfl (fun h => ?_) (fun h => ?_)
  · have h0 : ao = none := by simpa using h
    have hn0 : xs.length = 0 := by
      rcases H.at_ with h1 | ⟨ad, h1, _⟩
      · exact h1
      · rw [h0] at h1; cases h1
    have hr : xs = [] := List.eq_nil_of_length_eq_zero hn0
    subst hr
    (repeat (first | refine cj_seq ?_ | (refine cj_region ?_; refine oj_run TT rfl ?_) | refine oj_then ?_ | refine cj_ret ?_ | refine nj_then_ret ?_))
    refine nj_nilarr 85 3 ?_
    refine nj_fret TT rfl fun β w' _ _ => ?_
    exact ⟨none, 0, rfl, Nat.le_refl _, rfl⟩
  (repeat (first | refine cj_seq ?_ | (refine cj_region ?_; refine oj_run TT rfl ?_) | refine cj_skip ?_ | refine nj_then ?_))
  refine oj_own 0 0 3 rfl (by (repeat' (first | exact trivial | refine AllLt.of ?_))) rfl (by decide) fun gb => ?_
  refine oj_append_sl TT 0 rfl rfl rfl rfl rfl rfl rfl H rfl rfl rfl rfl rfl rfl rfl rfl rfl (fun r hr => (lnRows_all xs r hr).2.2) (by omega) (by show (0 + xs.length) * 40 ≤ _; omega) fun ao' cap' hcap' => oj_run TT rfl ?_
  (repeat (first | refine oj_then ?_ | refine cj_ret ?_))
  refine nj_fret TT rfl fun β w' _ _ => ?_
  refine ⟨ao', cap', by show Value.slice ao' (0 + xs.length) cap' = _; rw [Nat.zero_add], by omega, ?_⟩
  show [_] = [_]
  rw [Nat.zero_add]
  rfl

/-! ### Add -/

structure GSt where
  xs : List GLine
  next : Int
  ids : List Int

def GLine.more (x : GLine) : GLine := ⟨x.id, x.ao, x.cap, x.st, x.cnt + 1⟩
def newLn (next : Int) (p : SRow) : GLine := ⟨next, p.ao, p.cap, p.ss, 0⟩
def addOne (s : GSt) (p : SRow) : GSt :=
  if lineG s.xs p.ss < 0 then ⟨s.xs ++ [(newLn s.next p).more], s.next + 1, s.ids ++ [s.next]⟩
  else match s.xs[(lineG s.xs p.ss).toNat]? with
    | some x => ⟨s.xs.set (lineG s.xs p.ss).toNat x.more, s.next, s.ids ++ [x.id]⟩
    | none => s
def addAll (s : GSt) (ps : List SRow) : GSt := ps.foldl addOne s

/-- Lines and numbers are not too great. -/
structure GFit (m : Nat) (s : GSt) : Prop where
  xs : s.xs.length ≤ m
  ids : s.ids.length ≤ m
  next : -m ≤ s.next ∧ s.next ≤ m
  cnt : ∀ x ∈ s.xs, -m ≤ x.cnt ∧ x.cnt ≤ m
theorem GFit.mono {m n : Nat} {s : GSt} (h : GFit m s) (hmn : m ≤ n) : GFit n s :=
  ⟨Nat.le_trans h.xs hmn, Nat.le_trans h.ids hmn, by have := h.next; omega, fun x hx => by have := h.cnt x hx; omega⟩
theorem lineG_bd (xs : List GLine) (s : List ByteArray) : -1 ≤ lineG xs s ∧ lineG xs s < xs.length := by
  have := findG_bd (fun x : GLine => decide (x.st = s)) xs 0
  unfold lineG
  omega
theorem addOne_fit {m : Nat} {s : GSt} (h : GFit m s) (p : SRow) : GFit (m + 1) (addOne s p) := by
  unfold addOne
  split
  · refine ⟨by have := h.xs; simp; omega, by have := h.ids; simp; omega, by have := h.next; dsimp only; omega, fun x hx => ?_⟩
    rcases List.mem_append.1 hx with hx | hx
    · have := h.cnt x hx; omega
    · rw [List.mem_singleton] at hx
      subst hx
      show -((m + 1 : Nat) : Int) ≤ (0 : Int) + 1 ∧ (0 : Int) + 1 ≤ ((m + 1 : Nat) : Int)
      omega
  · split
    · rename_i x hx
      refine ⟨by have := h.xs; rw [List.length_set]; omega, by have := h.ids; simp; omega, by have := h.next; dsimp only; omega, fun y hy => ?_⟩
      rcases List.mem_or_eq_of_mem_set hy with hy | hy
      · have := h.cnt y hy; omega
      · subst hy
        have := h.cnt x (List.mem_of_getElem? hx)
        show -((m + 1 : Nat) : Int) ≤ x.cnt + 1 ∧ x.cnt + 1 ≤ ((m + 1 : Nat) : Int)
        omega
    · exact h.mono (by omega)
theorem addAll_fit : ∀ (ps : List SRow) {m : Nat} {s : GSt}, GFit m s → GFit (m + ps.length) (addAll s ps)
  | [], m, s, h => h
  | p :: ps, m, s, h => (addAll_fit ps (addOne_fit h p)).mono (by simp only [List.length_cons]; omega)
theorem addOne_ok {σ : Snap} {s : GSt} (h : ∀ x ∈ s.xs, LnOk σ x) {p : SRow} (hp : SrOk σ p) : ∀ x ∈ (addOne s p).xs, LnOk σ x := by
  unfold addOne
  split
  · intro x hx
    rcases List.mem_append.1 hx with hx | hx
    · exact h x hx
    · rw [List.mem_singleton] at hx; subst hx; exact hp
  · split
    · rename_i x hx
      intro y hy
      rcases List.mem_or_eq_of_mem_set hy with hy | hy
      · exact h y hy
      · subst hy; exact h x (List.mem_of_getElem? hx)
    · exact h
theorem addAll_ok {σ : Snap} : ∀ (ps : List SRow) {s : GSt}, (∀ x ∈ s.xs, LnOk σ x) → (∀ p ∈ ps, SrOk σ p) → ∀ x ∈ (addAll s ps).xs, LnOk σ x
  | [], _, h, _ => h
  | p :: ps, _, h, hp => addAll_ok ps (addOne_ok h (hp p List.mem_cons_self)) fun q hq => hp q (List.mem_cons_of_mem _ hq)

structure AdS where
  s : GSt
  bo : Option Addr
  bc : Nat
  io : Option Addr
  ic : Nat
structure AdM where
  xs : List GLine
  next : Int
  j : Nat
  bo : Option Addr
  bc : Nat

set_option maxRecDepth 100000 in
set_option maxHeartbeats 1000000 in
theorem Add_c (σ : Snap) (xs : List GLine) (next : Int) (ao : Option Addr) (cap : Nat) (H : SlAt σ ao xs.length cap 3 (lnRows xs)) (hx : ∀ x ∈ xs, LnOk σ x) (ps : List SRow) (po : Option Addr) (pc : Nat) (P : SlAt σ po ps.length pc 1 (srRows ps)) (hp : ∀ p ∈ ps, SrOk σ p)
    (m : Nat) (hfit : GFit m ⟨xs, next, []⟩) (hm : m + ps.length ≤ 1000000) :
    PureS Tryd.prog 48 [.agg [.v (.slice ao xs.length cap), .v (.int .i64 next)], .a (.v (.slice po ps.length pc))] σ (fun v σ' => ∃ bo bc io ic, v = .tuple #[.agg #[.slice bo (addAll ⟨xs, next, []⟩ ps).xs.length bc, .int .i64 (addAll ⟨xs, next, []⟩ ps).next], .slice io (addAll ⟨xs, next, []⟩ ps).ids.length ic] ∧
      SlAt σ' bo (addAll ⟨xs, next, []⟩ ps).xs.length bc 3 (lnRows (addAll ⟨xs, next, []⟩ ps).xs) ∧ SlAt σ' io (addAll ⟨xs, next, []⟩ ps).ids.length ic 1 (idRows (addAll ⟨xs, next, []⟩ ps).ids)) := by
  have hxl := hfit.xs
  dsimp only at hxl
  refine enter_s Tryd.func48 rfl rfl (by (repeat' (first | exact trivial | refine AllLt.of ?_ | constructor))) fun w => ?_
  (repeat (first | refine cj_seq ?_ | (refine cj_region ?_; refine oj_run TT rfl ?_) | refine oj_then ?_))
  refine oj_callF [] (A0 := []) (Ar := []) rfl rfl rfl rfl rfl rfl rfl Tryd.call91 (by (repeat' (first | exact trivial | constructor))) (CloneLn_c σ xs (by omega) ao cap H) fun v σ1 A1 hle ⟨bo0, bc0, hv, hcap, hA⟩ => ⟨.a (.v (.slice bo0 xs.length bc0)), trivial, hv.symm, ?_⟩
  subst hA
  have hx := fun x h => (hx x h).mono hle
  have hp := fun p h => (hp p h).mono hle
  have P := P.mono hle
  refine oj_run TT rfl ?_
  (repeat (first | refine cj_seq ?_ | (refine cj_region ?_; refine oj_run TT rfl ?_) | refine oj_then ?_ | refine cj_block ?_))
  refine cj_nilarr 3 1 ?_
  refine cj_cutB (fun (s : AdS) => σ1) (fun s => [(2, .a (.p 0 0)), (4, .a (.p 1 0)), (6, .a (.v (.slice s.io s.s.ids.length s.ic)))]) (fun s => [(0, .loc 71, [.v (.slice s.bo s.s.xs.length s.bc), .v (.int .i64 s.s.next)]), (1, .loc 71, [.v (.slice none 0 0), .v (.int .i64 0)])])
    (fun s => [lnE s.bo s.bc s.s.xs, idE s.io s.ic s.s.ids]) 2 (fun s => s.s = addAll ⟨xs, next, []⟩ ps ∧ s.s.xs.length ≤ s.bc ∧ s.s.ids.length ≤ s.ic) ?_ (fun s hs => ?_)
  rotate_left
  · obtain ⟨h1, h2, h3⟩ := hs
    obtain ⟨s, bo, bc, io, ic⟩ := s
    dsimp only at h1 h2 h3 ⊢
    subst h1
    (repeat (first | refine cj_seq ?_ | (refine cj_region ?_; refine oj_run TT rfl ?_) | refine oj_then ?_ | refine cj_ret ?_))
    refine nj_seal 0 rfl rfl fun σ2 hle2 hS1 => ?_
    refine nj_seal 0 rfl rfl fun σ3 hle3 hS2 => ?_
    refine nj_ret TT rfl fun β w' _ _ => ?_
    exact ⟨bo, bc, io, ic, rfl, (ln_sealed hS1 h2).mono hle3, id_sealed hS2 h3⟩
  refine cj_loop2 (fun _ (_ : AdS) => σ1) (fun (k : Nat) s => [(2, .a (.p 0 0)), (4, .a (.p 1 0)), (6, .a (.v (.slice s.io s.s.ids.length s.ic))), (14, .a (.v (.slice po ps.length pc))), (15, .a (.v (.int .i64 ps.length))), (16, .a (.v (.int .i64 k)))])
    (fun _ s => [(0, .loc 71, [.v (.slice s.bo s.s.xs.length s.bc), .v (.int .i64 s.s.next)]), (1, .loc 71, [.v (.slice none 0 0), .v (.int .i64 0)])]) (fun _ s => [lnE s.bo s.bc s.s.xs, idE s.io s.ic s.s.ids]) 2
    (fun k s => k ≤ ps.length ∧ s.s = addAll ⟨xs, next, []⟩ (ps.take k) ∧ s.s.xs.length ≤ s.bc ∧ s.s.ids.length ≤ s.ic) (fun k _ => ps.length - k) 0 ⟨⟨xs, next, []⟩, bo0, bc0, none, 0⟩ ⟨Nat.zero_le _, rfl, hcap, Nat.le_refl _⟩ rfl (by (repeat (first | exact trivial | refine And.intro rfl ?_))) (by (repeat (first | exact trivial | refine And.intro rfl ?_))) rfl (by (repeat' (first | exact trivial | exact Nat.le_of_ble_eq_true rfl | constructor))) (by (repeat' (first | exact trivial | exact Nat.le_of_ble_eq_true rfl | refine AllLt.of ?_ | constructor))) fun k ⟨s, bo, bc, io, ic⟩ ⟨hk, hs, hbc, hic⟩ => ?_
  dsimp only at hs hbc hic ⊢
  (repeat (first | refine cj_seq ?_ | (refine cj_region ?_; refine oj_run TT rfl ?_) | refine oj_then ?_))
  refine cj_if rfl (fun h => ?_) (fun h => ?_)
  rotate_left
  · have hk0 : k = ps.length := by have := of_decide_eq_false h; omega
    subst hk0
    rw [List.take_length] at hs
    (repeat (first | refine cj_exit ?_ | refine nj_then_exit ?_ | refine nj_block_out ?_))
    refine nj_again (⟨s, bo, bc, io, ic⟩ : AdS) ⟨hs, hbc, hic⟩ Nat.zero_lt_one rfl (by (repeat (first | exact trivial | refine And.intro rfl ?_))) (by (repeat (first | exact trivial | refine And.intro rfl ?_))) rfl (by (repeat' (first | exact trivial | exact Nat.le_of_ble_eq_true rfl | constructor))) (by (repeat' (first | exact trivial | exact Nat.le_of_ble_eq_true rfl | refine AllLt.of ?_ | constructor)))
  have hkl : k < ps.length := by have := of_decide_eq_true h; omega
  have hrow := srRows_get (List.getElem?_eq_getElem hkl)
  have hpo := hp ps[k] (List.getElem_mem hkl)
  have hnext : addAll ⟨xs, next, []⟩ (ps.take (k + 1)) = addOne s ps[k] := by
    rw [List.take_succ_eq_append_getElem hkl, hs]
    unfold addAll
    rw [List.foldl_append]
    rfl
  have hF : GFit 999999 s := by
    have := addAll_fit (ps.take k) hfit
    rw [← hs, List.length_take] at this
    exact this.mono (by omega)
  have hF1 := hF.xs
  have hF2 := hF.ids
  have hF3 := hF.next
  have hxs : ∀ x ∈ s.xs, LnOk σ1 x := by
    have := addAll_ok (σ := σ1) (ps.take k) (s := ⟨xs, next, []⟩) hx fun p h => hp p (List.mem_of_mem_take h)
    rw [← hs] at this
    exact this
  clear hs
  generalize ps[k] = p at *
  (repeat (first | refine cj_seq ?_ | (refine cj_region ?_; refine oj_run TT rfl ?_) | refine cj_skip ?_ | refine cj_block ?_ | refine nj_then ?_))
  refine oj_idx TT rfl rfl rfl rfl rfl rfl rfl rfl rfl P (by omega) hrow (oj_run TT rfl ?_)
  (repeat (first | refine cj_seq ?_ | (refine cj_region ?_; refine oj_run TT rfl ?_) | refine oj_then ?_))
  refine oj_peekP rfl rfl rfl rfl rfl Tryd.call92 (by (repeat' (first | exact trivial | refine AllLt.of ?_ | constructor))) (fun σ' h1 h2 => line_c σ' s.xs (by omega) bo bc s.next (ln_sealed (h2 0 _ rfl) hbc) (fun x h => (hxs x h).mono h1) p.ss p.ao p.cap (hpo.mono h1).2) fun v hv => ⟨.a (.v (.int .i64 (lineG s.xs p.ss))), trivial, hv.symm, ?_⟩
  refine oj_run TT rfl ?_
  (repeat (first | refine cj_seq ?_ | (refine cj_region ?_; refine oj_run TT rfl ?_) | refine oj_then ?_))
  refine cj_cutN (fun (_ : AdM) => σ1) (fun q => [(2, .a (.p 0 0)), (4, .a (.p 1 0)), (6, .a (.v (.slice io s.ids.length ic))), (9, .a (.v (.int .i64 q.j))), (14, .a (.v (.slice po ps.length pc))), (15, .a (.v (.int .i64 ps.length))), (16, .a (.v (.int .i64 k)))])
    (fun q => [(0, .loc 71, [.v (.slice q.bo q.xs.length q.bc), .v (.int .i64 q.next)]), (1, .loc 71, [.v (.slice none 0 0), .v (.int .i64 0)])]) (fun q => [lnE q.bo q.bc q.xs, idE io ic s.ids]) 2
    (fun q => q.xs.length ≤ q.bc ∧ ∃ x, q.xs[q.j]? = some x ∧ (-1000000 ≤ x.cnt ∧ x.cnt ≤ 1000000) ∧ (⟨q.xs.set q.j x.more, q.next, s.ids ++ [x.id]⟩ : GSt) = addOne s p) ?_ (fun q hq => ?_)
  · have hlb := lineG_bd s.xs p.ss
    refine cj_if rfl (fun h => ?_) (fun h => ?_)
    · have h := of_decide_eq_true h
      have e : (s.xs ++ [newLn s.next p]).length = s.xs.length + 1 := by simp
      have hadd : addOne s p = ⟨(s.xs ++ [newLn s.next p]).set s.xs.length (newLn s.next p).more, s.next + 1, s.ids ++ [s.next]⟩ := by
        unfold addOne
        rw [if_pos h, List.set_append_right _ _ (Nat.le_refl _), Nat.sub_self]
        rfl
      (repeat (first | refine cj_seq ?_ | (refine cj_region ?_; refine oj_run TT rfl ?_) | refine oj_then ?_))
      refine oj_append_lit TT 0 rfl rfl rfl rfl rfl rfl rfl rfl rfl rfl rfl rfl rfl rfl rfl rfl rfl rfl (by (repeat' (first | exact trivial | refine AllLt.of ?_ | constructor))) rfl (by omega) (by show (s.xs.length + 1) * 40 ≤ _; omega) fun ao' cap' hcap' => oj_run TT rfl ?_
      (repeat (first | (refine cj_region ?_; refine oj_run TT rfl ?_) | refine oj_then ?_ | refine oj_nil ?_ | (refine oj_add rfl rfl rfl rfl rfl rfl (by omega) ?_; refine oj_run TT rfl ?_)))
      refine nj_again (⟨s.xs ++ [newLn s.next p], s.next + 1, s.xs.length, ao', cap'⟩ : AdM) ⟨by dsimp only; omega, newLn s.next p, by simp, by show (-1000000 : Int) ≤ 0 ∧ (0 : Int) ≤ 1000000; omega, hadd.symm⟩ Nat.zero_lt_one rfl (by (repeat (first | exact trivial | refine And.intro rfl ?_))) ?_ ?_ (by (repeat' (first | exact trivial | exact Nat.le_of_ble_eq_true rfl | constructor))) (by (repeat' (first | exact trivial | exact Nat.le_of_ble_eq_true rfl | refine AllLt.of ?_ | constructor)))
      · dsimp only
        rw [e]
        (repeat (first | exact trivial | refine And.intro rfl ?_))
      · show [_, _] = [_, _]
        dsimp only
        unfold lnE
        rw [lnXs_append, e]
        rfl
    · have h := of_decide_eq_false h
      obtain ⟨j, hj⟩ : ∃ j : Nat, lineG s.xs p.ss = j := ⟨(lineG s.xs p.ss).toNat, by omega⟩
      have hjl : j < s.xs.length := by omega
      have hadd : addOne s p = ⟨s.xs.set j s.xs[j].more, s.next, s.ids ++ [s.xs[j].id]⟩ := by
        unfold addOne
        rw [if_neg h, hj, Int.toNat_natCast, List.getElem?_eq_getElem hjl]
      rw [hj]
      have hc := hF.cnt _ (List.getElem_mem hjl)
      (repeat refine cj_skip ?_)
      refine nj_again (⟨s.xs, s.next, j, bo, bc⟩ : AdM) ⟨hbc, s.xs[j], List.getElem?_eq_getElem hjl, by omega, hadd.symm⟩ Nat.zero_lt_one rfl (by (repeat (first | exact trivial | refine And.intro rfl ?_))) (by (repeat (first | exact trivial | refine And.intro rfl ?_))) rfl (by (repeat' (first | exact trivial | exact Nat.le_of_ble_eq_true rfl | constructor))) (by (repeat' (first | exact trivial | exact Nat.le_of_ble_eq_true rfl | refine AllLt.of ?_ | constructor)))
  obtain ⟨mxs, mnext, j, mbo, mbc⟩ := q
  obtain ⟨hmc, x, hxj, hxc, hadd⟩ := hq
  dsimp only at hmc hxj hxc hadd ⊢
  have hjl := (List.getElem?_eq_some_iff.1 hxj).1
  refine cj_arrAt 0 (E := lnE mbo mbc mxs) rfl (show 0 < mxs.length by omega) fun gb hgb => ?_
  have hgb : mbo = some ⟨gb, 0, none⟩ := hgb
  subst hgb
  have had : ∀ q : Nat, some (SV.a (AT.v (.pointer (some (Addr.add (Addr.add ⟨gb, 0, none⟩ ((j : Int).toNat * 3)) q))))) = some (SV.a (AT.v (.pointer (some ⟨gb, j * 3 + q, none⟩)))) := fun q => by
    rw [Int.toNat_natCast, add0, Addr.add_lit]
  (repeat (first | refine cj_seq ?_ | (refine cj_region ?_; refine oj_run TT rfl ?_)))
  refine oj_indexAddr TT rfl rfl rfl rfl rfl rfl rfl rfl rfl ⟨by omega, by omega⟩ (oj_run TT rfl ?_)
  refine oj_ldA 0 (off := j * 3 + 2) (c := .v (.int .i64 x.cnt)) TT rfl rfl rfl rfl rfl (had 2) rfl rfl rfl rfl (lnXs_get hxj rfl) trivial (oj_run TT rfl ?_)
  refine oj_add rfl rfl rfl rfl rfl rfl (by omega) (oj_run TT rfl ?_)
  refine oj_indexAddr TT rfl rfl rfl rfl rfl rfl rfl rfl rfl ⟨by omega, by omega⟩ (oj_run TT rfl ?_)
  refine oj_stA 0 (off := j * 3 + 2) (A' := [lnE (some ⟨gb, 0, none⟩) mbc (mxs.set j x.more), idE io ic s.ids]) TT rfl rfl rfl rfl (had 2) rfl rfl rfl rfl rfl (by show j * 3 + 2 < mxs.length * 3; omega) trivial rfl ?_ (oj_run TT rfl ?_)
  · show [_, _] = [_, _]
    unfold lnE
    rw [← lnXs_set (j := 2) (r' := x.more) (.v (.int .i64 (x.cnt + 1))) hxj (by omega) rfl, List.length_set]
  have hxj' : (mxs.set j x.more)[j]? = some x.more := by rw [List.getElem?_set, if_pos rfl, if_pos hjl]
  (repeat (first | (refine cj_region ?_; refine oj_run TT rfl ?_) | refine oj_then ?_))
  refine oj_indexAddr TT rfl rfl rfl rfl rfl rfl rfl rfl rfl ⟨by omega, by omega⟩ (oj_run TT rfl ?_)
  refine oj_ldA 0 (off := j * 3 + 0) (c := .v (.int .i64 x.id)) TT rfl rfl rfl rfl rfl (had 0) rfl rfl rfl rfl (lnXs_get (j := 0) hxj' rfl) trivial (oj_run TT rfl ?_)
  refine oj_append_lit TT 1 rfl rfl rfl rfl rfl rfl rfl rfl rfl rfl rfl rfl rfl rfl rfl rfl rfl rfl (by (repeat' (first | exact trivial | refine AllLt.of ?_ | constructor))) rfl (by omega) (by show (s.ids.length + 1) * 8 ≤ _; omega) fun io' ic' hic' => oj_run TT rfl ?_
  (repeat (first | (refine cj_region ?_; refine oj_run TT rfl ?_) | refine oj_nil ?_ | refine nj_then ?_ | refine nj_block ?_ | (refine oj_add rfl rfl rfl rfl rfl rfl (by omega) ?_; refine oj_run TT rfl ?_)))
  refine nj_again (k + 1, (⟨⟨mxs.set j x.more, mnext, s.ids ++ [x.id]⟩, some ⟨gb, 0, none⟩, mbc, io', ic'⟩ : AdS)) ⟨hkl, by dsimp only; rw [hadd, hnext], by dsimp only; rw [List.length_set]; exact hmc, by dsimp only; rw [List.length_append]; exact hic'⟩ (by dsimp only; omega) rfl ?_ ?_ ?_ (by (repeat' (first | exact trivial | exact Nat.le_of_ble_eq_true rfl | constructor))) (by (repeat' (first | exact trivial | exact Nat.le_of_ble_eq_true rfl | refine AllLt.of ?_ | constructor)))
  · dsimp only
    rw [List.length_append]
    (repeat (first | exact trivial | refine And.intro rfl ?_))
  · dsimp only
    rw [List.length_set]
    (repeat (first | exact trivial | refine And.intro rfl ?_))
  · show [_, _] = [_, _]
    dsimp only
    unfold idE idXs
    rw [List.map_append, List.length_append]
    rfl
end Go.Sy
namespace Go.Sy
open Go.Proofs

/-! ### Find, Sound -/

def gdS (ao : Option Addr) (cap : Nat) (xs : List GLine) (next : Int) : SV := .agg [.v (.slice ao xs.length cap), .v (.int .i64 next)]

def findIdG (xs : List GLine) (s : List ByteArray) : Int := match xs[(lineG xs s).toNat]? with
  | some x => if lineG xs s < 0 then -1 else x.id
  | none => -1

set_option maxRecDepth 100000 in
set_option maxHeartbeats 1000000 in
theorem FindGd_c (σ : Snap) (xs : List GLine) (hl : xs.length ≤ 140737488355328) (ao : Option Addr) (cap : Nat) (next : Int) (H : SlAt σ ao xs.length cap 3 (lnRows xs)) (hx : ∀ x ∈ xs, LnOk σ x)
    (s : List ByteArray) (so : Option Addr) (sc : Nat) (S : SlAt σ so s.length sc 1 (strRows s)) :
    PlainS Tryd.prog 49 [.agg [.v (.slice ao xs.length cap), .v (.int .i64 next)], .a (.v (.slice so s.length sc))] σ (fun v => v = .int .i64 (findIdG xs s)) := by
  have hlb := lineG_bd xs s
  have hfi : findIdG xs s = match xs[(lineG xs s).toNat]? with | some x => if lineG xs s < 0 then -1 else x.id | none => -1 := rfl
  refine enter_p Tryd.func49 rfl rfl (by (repeat' (first | exact trivial | refine AllLt.of ?_ | constructor))) fun w => ?_
  (repeat (first | refine cj_seq ?_ | (refine cj_region ?_; refine oj_run TT rfl ?_) | refine oj_then ?_))
  refine oj_callP rfl rfl rfl rfl rfl Tryd.call92 (by (repeat' (first | exact trivial | refine AllLt.of ?_ | constructor))) (line_c σ xs hl ao cap next H hx s so sc S) fun v hv => ⟨.a (.v (.int .i64 (lineG xs s))), trivial, hv.symm, ?_⟩
  refine oj_run TT rfl ?_
  (repeat (first | refine cj_seq ?_ | (refine cj_region ?_; refine oj_run TT rfl ?_) | refine oj_then ?_))
  refine cj_if rfl (fun h => ?_) (fun h => ?_)
  · have h := of_decide_eq_true h
    obtain ⟨j, hj⟩ : ∃ j : Nat, lineG xs s = j := ⟨(lineG xs s).toNat, by omega⟩
    have hjl : j < xs.length := by omega
    have hr := lnRows_get (List.getElem?_eq_getElem hjl)
    rw [hj, Int.toNat_natCast, List.getElem?_eq_getElem hjl] at hfi
    dsimp only at hfi
    rw [if_neg (by omega)] at hfi
    rw [hj]
    generalize xs[j] = x at *
    (repeat (first | refine cj_seq ?_ | (refine cj_region ?_; refine oj_run TT rfl ?_)))
    refine oj_idx TT rfl rfl rfl rfl rfl rfl rfl rfl rfl H (by omega) hr (oj_run TT rfl ?_)
    (repeat (first | refine oj_then ?_ | refine cj_ret ?_ | refine nj_then_ret ?_))
    refine nj_ret TT rfl fun β w' _ _ => ?_
    rw [hfi]
    rfl
  · have h := of_decide_eq_false h
    (repeat (first | refine cj_seq ?_ | (refine cj_region ?_; refine oj_run TT rfl ?_) | refine oj_then ?_ | refine cj_skip ?_ | refine cj_ret ?_ | refine nj_then ?_))
    refine nj_ret TT rfl fun β w' _ _ => ?_
    rw [hfi]
    split
    · rw [if_pos (by omega)]; rfl
    · rfl

def sndFrom (all : List GLine) (next : Int) : List GLine → Nat → Int → Bool
  | [], _, _ => true
  | x :: l, k, last => if x.id ≤ last then false else if next ≤ x.id then false else if x.cnt < 1 then false else if lineG all x.st = k then sndFrom all next l (k + 1) x.id else false
def soundGd (xs : List GLine) (next : Int) : Bool := sndFrom xs next xs 0 (-1)

set_option maxRecDepth 100000 in
set_option maxHeartbeats 1000000 in
theorem SoundGd_c (σ : Snap) (xs : List GLine) (hl : xs.length ≤ 140737488355328) (ao : Option Addr) (cap : Nat) (next : Int) (H : SlAt σ ao xs.length cap 3 (lnRows xs)) (hx : ∀ x ∈ xs, LnOk σ x) :
    PlainS Tryd.prog 52 [.agg [.v (.slice ao xs.length cap), .v (.int .i64 next)]] σ (fun v => v = .bool (soundGd xs next)) := by
  refine enter_p Tryd.func52 rfl rfl (by (repeat' (first | exact trivial | refine AllLt.of ?_ | constructor))) fun w => ?_
  (repeat (first | refine cj_seq ?_ | (refine cj_region ?_; refine oj_run TT rfl ?_) | refine oj_then ?_ | refine cj_block ?_))
  refine cj_loop2 (fun _ _ => σ) (fun (k : Nat) (last : Int) => [(1, .a (.p 0 0)), (3, .a (.v (.int .i64 last))), (7, .a (.v (.slice ao xs.length cap))), (8, .a (.v (.int .i64 xs.length))), (9, .a (.v (.int .i64 k)))]) (fun _ _ => [(0, .loc 71, [.v (.slice ao xs.length cap), .v (.int .i64 next)])]) (fun _ _ => []) 1
    (fun k last => k ≤ xs.length ∧ sndFrom xs next (xs.drop k) k last = soundGd xs next) (fun k _ => xs.length - k) 0 (-1) ⟨Nat.zero_le _, rfl⟩ rfl (by (repeat (first | exact trivial | refine And.intro rfl ?_))) (by (repeat (first | exact trivial | refine And.intro rfl ?_))) rfl (by (repeat' (first | exact trivial | exact Nat.le_of_ble_eq_true rfl | constructor))) (by (repeat' (first | exact trivial | exact Nat.le_of_ble_eq_true rfl | refine AllLt.of ?_ | constructor))) fun k last ⟨hk, hp⟩ => ?_
  (repeat (first | refine cj_seq ?_ | (refine cj_region ?_; refine oj_run TT rfl ?_) | refine oj_then ?_))
  refine cj_if rfl (fun h => ?_) (fun h => ?_)
  rotate_left
  · have hk0 : k = xs.length := by have := of_decide_eq_false h; omega
    subst hk0
    rw [List.drop_length] at hp
    (repeat (first | refine cj_seq ?_ | (refine cj_region ?_; refine oj_run TT rfl ?_) | refine oj_then ?_ | refine cj_exit ?_ | refine cj_ret ?_ | refine nj_then ?_ | refine nj_then_exit ?_ | refine nj_block_out ?_))
    refine nj_ret TT rfl fun β w' _ _ => ?_
    rw [← hp]
    rfl
  have hkl : k < xs.length := by have := of_decide_eq_true h; omega
  have hra := lnRows_get (List.getElem?_eq_getElem hkl)
  have hxk := hx xs[k] (List.getElem_mem hkl)
  rw [List.drop_eq_getElem_cons hkl, sndFrom] at hp
  generalize xs[k] = x at *
  (repeat (first | refine cj_seq ?_ | (refine cj_region ?_; refine oj_run TT rfl ?_) | refine cj_skip ?_ | refine cj_block ?_ | refine nj_then ?_))
  refine oj_idx TT rfl rfl rfl rfl rfl rfl rfl rfl rfl H (by omega) hra (oj_run TT rfl ?_)
  (repeat (first | refine cj_seq ?_ | (refine cj_region ?_; refine oj_run TT rfl ?_) | refine oj_then ?_))
  refine oj_split 18 rfl (fun h1 => ?_) (fun h1 => ?_)
  · have h1 : decide (x.id ≤ last) = true := h1
    rw [if_pos (of_decide_eq_true h1)] at hp
    refine oj_run TT rfl ?_
    (repeat (first | refine cj_seq ?_ | (refine cj_region ?_; refine oj_run TT rfl ?_) | refine oj_then ?_ | refine cj_if_t rfl ?_ | refine cj_ret ?_ | refine nj_then_ret ?_ | refine nj_block_ret ?_))
    refine nj_ret TT rfl fun β w' _ _ => ?_
    rw [← hp]
    rfl
  have h1 : decide (x.id ≤ last) = false := h1
  rw [if_neg (of_decide_eq_false h1)] at hp
  refine oj_run TT rfl ?_
  refine oj_split 25 rfl (fun h2 => ?_) (fun h2 => ?_)
  · have h2 : decide (x.id ≥ next) = true := h2
    rw [if_pos (of_decide_eq_true h2)] at hp
    refine oj_run TT rfl ?_
    (repeat (first | refine cj_seq ?_ | (refine cj_region ?_; refine oj_run TT rfl ?_) | refine oj_then ?_ | refine cj_if_t rfl ?_ | refine cj_ret ?_ | refine nj_then_ret ?_ | refine nj_block_ret ?_))
    refine nj_ret TT rfl fun β w' _ _ => ?_
    rw [← hp]
    rfl
  have h2 : decide (x.id ≥ next) = false := h2
  rw [if_neg (of_decide_eq_false h2)] at hp
  refine oj_run TT rfl ?_
  refine oj_split 30 rfl (fun h3 => ?_) (fun h3 => ?_)
  · have h3 : decide (x.cnt < 1) = true := h3
    rw [if_pos (of_decide_eq_true h3)] at hp
    refine oj_run TT rfl ?_
    (repeat (first | refine cj_seq ?_ | (refine cj_region ?_; refine oj_run TT rfl ?_) | refine oj_then ?_ | refine cj_if_t rfl ?_ | refine cj_ret ?_ | refine nj_then_ret ?_ | refine nj_block_ret ?_))
    refine nj_ret TT rfl fun β w' _ _ => ?_
    rw [← hp]
    rfl
  have h3 : decide (x.cnt < 1) = false := h3
  rw [if_neg (of_decide_eq_false h3)] at hp
  refine oj_run TT rfl ?_
  refine oj_callP rfl rfl rfl rfl rfl Tryd.call92 (by (repeat' (first | exact trivial | refine AllLt.of ?_ | constructor))) (line_c σ xs hl ao cap next H hx x.st x.ao x.cap hxk.2) fun v hv => ⟨.a (.v (.int .i64 (lineG xs x.st))), trivial, hv.symm, ?_⟩
  refine oj_run TT rfl ?_
  (repeat refine oj_then ?_)
  refine cj_if rfl (fun h => ?_) (fun h => ?_)
  · have h : ¬ lineG xs x.st = k := by simpa using h
    rw [if_neg h] at hp
    (repeat (first | refine cj_seq ?_ | (refine cj_region ?_; refine oj_run TT rfl ?_) | refine oj_then ?_ | refine cj_ret ?_ | refine nj_then_ret ?_ | refine nj_block_ret ?_))
    refine nj_ret TT rfl fun β w' _ _ => ?_
    rw [← hp]
    rfl
  · have h : lineG xs x.st = k := by simpa using h
    rw [if_pos h] at hp
    (repeat (first | (refine cj_region ?_; refine oj_run TT rfl ?_) | refine oj_nil ?_ | refine cj_skip ?_ | refine nj_then ?_ | refine nj_block ?_ | (refine oj_add rfl rfl rfl rfl rfl rfl (by omega) ?_; refine oj_run TT rfl ?_)))
    refine nj_again (k + 1, x.id) ⟨hkl, hp⟩ (by dsimp only; omega) rfl (by (repeat (first | exact trivial | refine And.intro rfl ?_))) (by (repeat (first | exact trivial | refine And.intro rfl ?_))) rfl (by (repeat' (first | exact trivial | exact Nat.le_of_ble_eq_true rfl | constructor))) (by (repeat' (first | exact trivial | exact Nat.le_of_ble_eq_true rfl | refine AllLt.of ?_ | constructor)))

/-! ### theirs, Same -/

def lnF (bo : Option Addr) (bc : Nat) (l : List GLine) : AE := ⟨bo, l.length, bc, 144, 3, lnXs l⟩
theorem lnF_sealed {σ : Snap} {bo : Option Addr} {bc : Nat} {l : List GLine} (h : ArrSealed σ (lnF bo bc l)) (hc : l.length ≤ bc) : SlAt σ bo l.length bc 3 (lnRows l) :=
  h.sl (E := lnF bo bc l) rfl (fun r hr => ⟨(lnRows_all l r hr).1, (lnRows_all l r hr).2.1⟩) (by simp [lnRows]) rfl hc

set_option maxRecDepth 100000 in
set_option maxHeartbeats 1000000 in
theorem theirsGd_c (σ : Snap) (xs : List GLine) (hl : xs.length ≤ 1000000) (ao : Option Addr) (cap : Nat) (next : Int) (H : SlAt σ ao xs.length cap 3 (lnRows xs)) :
    PureS Tryd.prog 51 [.agg [.v (.slice ao xs.length cap), .v (.int .i64 next)]] σ (fun v σ' => ∃ bo bc, v = .agg #[.slice bo xs.length bc, .int .i64 next] ∧ SlAt σ' bo xs.length bc 3 (lnRows xs)) := by
  refine enter_s Tryd.func51 rfl rfl (by (repeat' (first | exact trivial | refine AllLt.of ?_ | constructor))) fun w => ?_
  (repeat (first | refine cj_seq ?_ | (refine cj_region ?_; refine oj_run TT rfl ?_) | refine oj_then ?_ | refine cj_block ?_))
  refine cj_nilarr 144 3 ?_
  refine cj_cutB (fun (_ : Option Addr × Nat) => σ) (fun s => [(2, .a (.p 1 0)), (3, .a (.p 2 0))]) (fun s => [(1, .loc 79, [.v (.slice none 0 0), .v (.int .i64 0)]), (2, .loc 79, [.v (.slice s.1 xs.length s.2), .v (.int .i64 next)])])
    (fun s => [lnF s.1 s.2 xs]) 3 (fun s => xs.length ≤ s.2) ?_ (fun s hs => ?_)
  rotate_left
  · obtain ⟨bo, bc⟩ := s
    dsimp only at hs ⊢
    (repeat (first | refine cj_seq ?_ | (refine cj_region ?_; refine oj_run TT rfl ?_) | refine oj_then ?_ | refine cj_ret ?_))
    refine nj_seal 0 rfl rfl fun σ2 hle2 hS1 => ?_
    refine nj_ret TT rfl fun β w' _ _ => ?_
    exact ⟨bo, bc, rfl, lnF_sealed hS1 hs⟩
  refine cj_loop2 (fun _ (_ : Option Addr × Nat) => σ) (fun (k : Nat) s => [(1, .a (.p 0 0)), (2, .a (.p 1 0)), (3, .a (.p 2 0)), (4, .a (.v (.int .i64 k)))])
    (fun k s => [(0, .loc 71, [.v (.slice ao xs.length cap), .v (.int .i64 next)]), (1, .loc 79, [.v (.slice none 0 0), .v (.int .i64 0)]), (2, .loc 79, [.v (.slice s.1 (xs.take k).length s.2), .v (.int .i64 next)])]) (fun k s => [lnF s.1 s.2 (xs.take k)]) 3
    (fun k s => k ≤ xs.length ∧ k ≤ s.2) (fun k _ => xs.length - k) 0 (none, 0) ⟨Nat.zero_le _, Nat.le_refl _⟩ rfl (by (repeat (first | exact trivial | refine And.intro rfl ?_))) (by (repeat (first | exact trivial | refine And.intro rfl ?_))) rfl (by (repeat' (first | exact trivial | exact Nat.le_of_ble_eq_true rfl | constructor))) (by (repeat' (first | exact trivial | exact Nat.le_of_ble_eq_true rfl | refine AllLt.of ?_ | constructor))) fun k ⟨bo, bc⟩ ⟨hk, hbc⟩ => ?_
  dsimp only at hbc ⊢
  (repeat (first | refine cj_seq ?_ | (refine cj_region ?_; refine oj_run TT rfl ?_) | refine oj_then ?_))
  refine cj_if rfl (fun h => ?_) (fun h => ?_)
  rotate_left
  · have hk0 : k = xs.length := by have := of_decide_eq_false h; omega
    subst hk0
    rw [List.take_length]
    (repeat (first | refine cj_exit ?_ | refine nj_then_exit ?_ | refine nj_block_out ?_))
    refine nj_again (bo, bc) hbc Nat.zero_lt_one rfl (by (repeat (first | exact trivial | refine And.intro rfl ?_))) (by (repeat (first | exact trivial | refine And.intro rfl ?_))) rfl (by (repeat' (first | exact trivial | exact Nat.le_of_ble_eq_true rfl | constructor))) (by (repeat' (first | exact trivial | exact Nat.le_of_ble_eq_true rfl | refine AllLt.of ?_ | constructor)))
  have hkl : k < xs.length := by have := of_decide_eq_true h; omega
  have hra := lnRows_get (List.getElem?_eq_getElem hkl)
  have htk : xs.take (k + 1) = xs.take k ++ [xs[k]] := List.take_succ_eq_append_getElem hkl
  have hlk : (xs.take k).length = k := by rw [List.length_take]; omega
  generalize xs[k] = x at *
  have hlk1 : (xs.take (k + 1)).length = k + 1 := by rw [List.length_take]; omega
  have hE0 : lnF bo bc (xs.take k) = ⟨bo, k, bc, 144, 3, lnXs (xs.take k)⟩ := by unfold lnF; rw [hlk]
  rw [hlk, hE0]
  (repeat (first | refine cj_seq ?_ | refine cj_skip ?_ | refine cj_block ?_ | refine nj_then ?_))
  refine cj_draw [(0,.pure),(1,.quiet),(2,.pure),(3,.quiet),(4,.pure),(5,.pure),(6,.pure),(7,.quiet),(8,.pure),(9,.quiet),(10,.pure),(11,.pure),(12,.pure),(13,.quiet),(14,.pure),(15,.quiet),(16,.pure),(17,.pure),(18,.pure),(19,.quiet),(20,.pure),(21,.keep),(22,.sink),(23,.pure),(24,.sink)] mixed (by kernel_rfl) (oj_run TT rfl ?_)
  refine oj_idx TT rfl rfl rfl rfl rfl rfl rfl rfl rfl H (by omega) hra (oj_run TT rfl ?_)
  refine oj_idx TT rfl rfl rfl rfl rfl rfl rfl rfl rfl H (by omega) hra (oj_run TT rfl ?_)
  refine oj_idx TT rfl rfl rfl rfl rfl rfl rfl rfl rfl H (by omega) hra (oj_run TT rfl ?_)
  refine oj_append_lit TT 0 rfl rfl rfl rfl rfl rfl rfl rfl rfl rfl rfl rfl rfl rfl rfl rfl rfl rfl (by (repeat' (first | exact trivial | refine AllLt.of ?_ | constructor))) rfl (by omega) (by show (k + 1) * 40 ≤ _; omega) fun ao' cap' hcap' => oj_run TT rfl ?_
  (repeat (first | (refine cj_region ?_; refine oj_run TT rfl ?_) | refine oj_nil ?_ | refine nj_then ?_ | refine nj_block ?_ | (refine oj_add rfl rfl rfl rfl rfl rfl (by omega) ?_; refine oj_run TT rfl ?_)))
  refine nj_again (k + 1, (ao', cap')) ⟨hkl, hcap'⟩ (by dsimp only; omega) rfl (by (repeat (first | exact trivial | refine And.intro rfl ?_))) ?_ ?_ (by (repeat' (first | exact trivial | exact Nat.le_of_ble_eq_true rfl | constructor))) (by (repeat' (first | exact trivial | exact Nat.le_of_ble_eq_true rfl | refine AllLt.of ?_ | constructor)))
  · dsimp only
    rw [hlk1]
    (repeat (first | exact trivial | refine And.intro rfl ?_))
  · show [_] = [_]
    dsimp only
    unfold lnF
    rw [hlk1, htk, lnXs_append]
    rfl

def lnEq (x y : GLine) : Bool := decide (x.id = y.id) && decide (x.cnt = y.cnt) && decide (x.st = y.st)
def sameLn : List GLine → List GLine → Bool
  | [], [] => true
  | x :: a, y :: b => lnEq x y && sameLn a b
  | _, _ => false
theorem sameLn_len : ∀ {a b : List GLine}, a.length ≠ b.length → sameLn a b = false
  | [], [], h => absurd rfl h
  | _ :: a, _ :: b, h => by rw [sameLn, sameLn_len (a := a) (b := b) (by simpa using h), Bool.and_false]
  | [], _ :: _, _ => rfl
  | _ :: _, [], _ => rfl
theorem sameLn_refl : ∀ a : List GLine, sameLn a a = true
  | [] => rfl
  | x :: a => by rw [sameLn, sameLn_refl a]; simp [lnEq]

set_option maxRecDepth 100000 in
set_option maxHeartbeats 1000000 in
theorem SameGd_c (σ : Snap) (xs ys : List GLine) (hl : xs.length ≤ 140737488355328) (ao bo : Option Addr) (ac bc : Nat) (n m : Int) (HA : SlAt σ ao xs.length ac 3 (lnRows xs)) (HB : SlAt σ bo ys.length bc 3 (lnRows ys)) (hx : ∀ x ∈ xs, LnOk σ x) (hy : ∀ x ∈ ys, LnOk σ x) :
    PlainS Tryd.prog 50 [.agg [.v (.slice ao xs.length ac), .v (.int .i64 n)], .agg [.v (.slice bo ys.length bc), .v (.int .i64 m)]] σ (fun v => v = .bool (decide (n = m) && sameLn xs ys)) := by
  refine enter_p Tryd.func50 rfl rfl (by (repeat' (first | exact trivial | refine AllLt.of ?_ | constructor))) fun w => ?_
  (repeat (first | refine cj_seq ?_ | (refine cj_region ?_; refine oj_run TT rfl ?_) | refine oj_then ?_))
  refine oj_split 11 rfl (fun h => ?_) (fun h => ?_)
  · have h : ¬ n = m := by simpa using (show (!decide (n = m)) = true from h)
    refine oj_run TT rfl ?_
    (repeat (first | refine cj_seq ?_ | (refine cj_region ?_; refine oj_run TT rfl ?_) | refine oj_then ?_ | refine cj_if_t rfl ?_ | refine cj_ret ?_ | refine nj_then_ret ?_))
    refine nj_ret TT rfl fun β w' _ _ => ?_
    rw [decide_eq_false h, Bool.false_and]
    rfl
  have h : n = m := by simpa using (show (!decide (n = m)) = false from h)
  rw [decide_eq_true h, Bool.true_and]
  refine oj_run TT rfl ?_
  (repeat refine oj_then ?_)
  refine cj_if rfl (fun h => ?_) (fun h => ?_)
  · have h : ¬ (xs.length : Int) = ys.length := by simpa using h
    rw [sameLn_len (by omega)]
    (repeat (first | refine cj_seq ?_ | (refine cj_region ?_; refine oj_run TT rfl ?_) | refine oj_then ?_ | refine cj_ret ?_ | refine nj_then_ret ?_))
    refine nj_ret TT rfl fun β w' _ _ => ?_
    rfl
  have hlen : xs.length = ys.length := by
    have h : (xs.length : Int) = ys.length := by simpa using h
    omega
  (repeat (first | refine cj_seq ?_ | (refine cj_region ?_; refine oj_run TT rfl ?_) | refine oj_then ?_ | refine cj_skip ?_ | refine cj_block ?_ | refine nj_then ?_))
  refine cj_loop (fun (_ : Nat) => σ) (fun k => [(2, .a (.p 0 0)), (3, .a (.p 1 0)), (5, .a (.v (.int .i64 k)))]) (fun _ => [(0, .loc 79, [.v (.slice ao xs.length ac), .v (.int .i64 n)]), (1, .loc 79, [.v (.slice bo ys.length bc), .v (.int .i64 m)])]) (fun _ => []) 2
    (fun k => k ≤ xs.length ∧ sameLn (xs.drop k) (ys.drop k) = sameLn xs ys) (fun k => xs.length - k) 0 ⟨Nat.zero_le _, rfl⟩ rfl (by (repeat (first | exact trivial | refine And.intro rfl ?_))) (by (repeat (first | exact trivial | refine And.intro rfl ?_))) rfl (by (repeat' (first | exact trivial | exact Nat.le_of_ble_eq_true rfl | constructor))) (by (repeat' (first | exact trivial | exact Nat.le_of_ble_eq_true rfl | refine AllLt.of ?_ | constructor))) fun k ⟨hk, hp⟩ => ?_
  (repeat (first | refine cj_seq ?_ | (refine cj_region ?_; refine oj_run TT rfl ?_) | refine oj_then ?_))
  refine cj_if rfl (fun h => ?_) (fun h => ?_)
  rotate_left
  · have hk0 : k = xs.length := by have := of_decide_eq_false h; omega
    subst hk0
    rw [List.drop_length, hlen, List.drop_length] at hp
    (repeat (first | refine cj_seq ?_ | (refine cj_region ?_; refine oj_run TT rfl ?_) | refine oj_then ?_ | refine cj_exit ?_ | refine cj_ret ?_ | refine nj_then ?_ | refine nj_then_exit ?_ | refine nj_block_out ?_))
    refine nj_ret TT rfl fun β w' _ _ => ?_
    rw [← hp]
    rfl
  have hkl : k < xs.length := by have := of_decide_eq_true h; omega
  have hkl' : k < ys.length := by omega
  have hra := lnRows_get (List.getElem?_eq_getElem hkl)
  have hrb := lnRows_get (List.getElem?_eq_getElem hkl')
  have hxk := hx xs[k] (List.getElem_mem hkl)
  have hyk := hy ys[k] (List.getElem_mem hkl')
  rw [List.drop_eq_getElem_cons hkl, List.drop_eq_getElem_cons hkl', sameLn] at hp
  generalize xs[k] = x at *
  generalize ys[k] = y at *
  (repeat (first | refine cj_seq ?_ | refine cj_skip ?_ | refine cj_block ?_ | refine nj_then ?_))
  refine cj_draw [(0,.pure),(1,.quiet),(2,.pure),(3,.pure),(4,.pure),(5,.quiet),(6,.pure),(7,.quiet),(8,.pure),(9,.pure),(10,.pure),(11,.quiet),(12,.pure),(13,.pure),(14,.pure),(15,.quiet),(16,.pure),(17,.pure),(18,.pure),(19,.quiet),(20,.pure),(21,.quiet),(22,.pure),(23,.pure),(24,.pure),(25,.quiet),(26,.pure),(27,.pure),(28,.pure),(29,.pure),(30,.quiet),(31,.pure),(32,.pure),(33,.pure),(34,.quiet),(35,.pure),(36,.quiet),(37,.pure),(38,.pure),(39,.pure),(40,.quiet),(41,.keep),(42,.pure),(43,.pure)] mixed (by kernel_rfl) (oj_run TT rfl ?_)
  refine oj_idx TT rfl rfl rfl rfl rfl rfl rfl rfl rfl HA (by omega) hra (oj_run TT rfl ?_)
  refine oj_idx TT rfl rfl rfl rfl rfl rfl rfl rfl rfl HB (by omega) hrb (oj_run TT rfl ?_)
  refine oj_split 40 rfl (fun h1 => ?_) (fun h1 => ?_)
  · have h1 : ¬ x.id = y.id := by simpa using (show (!decide (x.id = y.id)) = true from h1)
    refine oj_run TT rfl ?_
    (repeat (first | refine cj_seq ?_ | (refine cj_region ?_; refine oj_run TT rfl ?_) | refine oj_then ?_ | refine cj_if_t rfl ?_ | refine cj_ret ?_ | refine nj_then_ret ?_ | refine nj_block_ret ?_))
    refine nj_ret TT rfl fun β w' _ _ => ?_
    rw [← hp]
    unfold lnEq
    rw [decide_eq_false h1, Bool.false_and, Bool.false_and, Bool.false_and]
    rfl
  have h1 : x.id = y.id := by simpa using (show (!decide (x.id = y.id)) = false from h1)
  refine oj_run TT rfl ?_
  refine oj_idx TT rfl rfl rfl rfl rfl rfl rfl rfl rfl HA (by omega) hra (oj_run TT rfl ?_)
  refine oj_idx TT rfl rfl rfl rfl rfl rfl rfl rfl rfl HB (by omega) hrb (oj_run TT rfl ?_)
  refine oj_split 55 rfl (fun h2 => ?_) (fun h2 => ?_)
  · have h2 : ¬ x.cnt = y.cnt := by simpa using (show (!decide (x.cnt = y.cnt)) = true from h2)
    refine oj_run TT rfl ?_
    (repeat (first | refine cj_seq ?_ | (refine cj_region ?_; refine oj_run TT rfl ?_) | refine oj_then ?_ | refine cj_if_t rfl ?_ | refine cj_ret ?_ | refine nj_then_ret ?_ | refine nj_block_ret ?_))
    refine nj_ret TT rfl fun β w' _ _ => ?_
    rw [← hp]
    unfold lnEq
    rw [decide_eq_false h2, Bool.and_false, Bool.false_and, Bool.false_and]
    rfl
  have h2 : x.cnt = y.cnt := by simpa using (show (!decide (x.cnt = y.cnt)) = false from h2)
  refine oj_run TT rfl ?_
  refine oj_idx TT rfl rfl rfl rfl rfl rfl rfl rfl rfl HA (by omega) hra (oj_run TT rfl ?_)
  refine oj_idx TT rfl rfl rfl rfl rfl rfl rfl rfl rfl HB (by omega) hrb (oj_run TT rfl ?_)
  refine oj_callP rfl rfl rfl rfl rfl Tryd.call54 (by (repeat' (first | exact trivial | constructor))) (SameSteps13_c σ x.st y.st hxk.1 x.ao y.ao x.cap y.cap hxk.2 hyk.2) fun v hv => ⟨.a (.b (decide (x.st = y.st))), trivial, hv.symm, ?_⟩
  refine oj_run TT rfl ?_
  (repeat refine oj_then ?_)
  refine cj_if rfl (fun h => ?_) (fun h => ?_)
  · have h : decide (x.st = y.st) = false := by simpa using h
    (repeat (first | refine cj_seq ?_ | (refine cj_region ?_; refine oj_run TT rfl ?_) | refine oj_then ?_ | refine cj_ret ?_ | refine nj_then_ret ?_ | refine nj_block_ret ?_))
    refine nj_ret TT rfl fun β w' _ _ => ?_
    rw [← hp]
    unfold lnEq
    rw [h, Bool.and_false, Bool.false_and]
    rfl
  · have h : decide (x.st = y.st) = true := by simpa using h
    have he : lnEq x y = true := by unfold lnEq; rw [h, decide_eq_true h1, decide_eq_true h2]; rfl
    rw [he, Bool.true_and] at hp
    (repeat (first | (refine cj_region ?_; refine oj_run TT rfl ?_) | refine oj_nil ?_ | refine cj_skip ?_ | refine nj_then ?_ | refine nj_block ?_ | (refine oj_add rfl rfl rfl rfl rfl rfl (by omega) ?_; refine oj_run TT rfl ?_)))
    refine nj_again (k + 1) ⟨hkl, hp⟩ (by omega) rfl (by (repeat (first | exact trivial | refine And.intro rfl ?_))) (by (repeat (first | exact trivial | refine And.intro rfl ?_))) rfl (by (repeat' (first | exact trivial | exact Nat.le_of_ble_eq_true rfl | constructor))) (by (repeat' (first | exact trivial | exact Nat.le_of_ble_eq_true rfl | refine AllLt.of ?_ | constructor)))

/-! ### Few -/

set_option maxRecDepth 100000 in
set_option maxHeartbeats 1000000 in
theorem Few13_c (σ : Snap) (ps : List SRow) (hl : ps.length ≤ 140737488355328) (po : Option Addr) (pc : Nat) (P : SlAt σ po ps.length pc 1 (srRows ps)) (hp : ∀ p ∈ ps, SrOk σ p) (most : Int) :
    PlainS Tryd.prog 47 [.a (.v (.slice po ps.length pc)), .a (.v (.int .i64 most))] σ (fun v => ∃ b, v = .bool b ∧ (b = true → (ps.length : Int) ≤ most)) := by
  refine enter_p Tryd.func47 rfl rfl (by (repeat' (first | exact trivial | constructor))) fun w => ?_
  (repeat (first | refine cj_seq ?_ | (refine cj_region ?_; refine oj_run TT rfl ?_) | refine oj_then ?_))
  refine cj_if rfl (fun h => ?_) (fun h => ?_)
  · (repeat (first | refine cj_seq ?_ | (refine cj_region ?_; refine oj_run TT rfl ?_) | refine oj_then ?_ | refine cj_ret ?_ | refine nj_then_ret ?_))
    refine nj_ret TT rfl fun β w' _ _ => ?_
    exact ⟨false, rfl, fun h => by cases h⟩
  have hm : (ps.length : Int) ≤ most := by
    have := of_decide_eq_false h
    omega
  (repeat (first | refine cj_seq ?_ | (refine cj_region ?_; refine oj_run TT rfl ?_) | refine oj_then ?_ | refine cj_skip ?_ | refine cj_block ?_ | refine nj_then ?_))
  refine cj_loop (fun (_ : Nat) => σ) (fun k => [(0, .a (.v (.slice po ps.length pc))), (5, .a (.v (.int .i64 k)))]) (fun _ => []) (fun _ => []) 0
    (fun k => k ≤ ps.length) (fun k => ps.length - k) 0 (Nat.zero_le _) rfl (by (repeat (first | exact trivial | refine And.intro rfl ?_))) (by (repeat (first | exact trivial | refine And.intro rfl ?_))) rfl (by (repeat' (first | exact trivial | constructor))) (by (repeat' exact trivial)) fun k hk => ?_
  (repeat (first | refine cj_seq ?_ | (refine cj_region ?_; refine oj_run TT rfl ?_) | refine oj_then ?_))
  refine cj_if rfl (fun h => ?_) (fun h => ?_)
  rotate_left
  · (repeat (first | refine cj_seq ?_ | (refine cj_region ?_; refine oj_run TT rfl ?_) | refine oj_then ?_ | refine cj_exit ?_ | refine cj_ret ?_ | refine nj_then ?_ | refine nj_then_exit ?_ | refine nj_block_out ?_))
    refine nj_ret TT rfl fun β w' _ _ => ?_
    exact ⟨true, rfl, fun _ => hm⟩
  have hkl : k < ps.length := by have := of_decide_eq_true h; omega
  have hrow := srRows_get (List.getElem?_eq_getElem hkl)
  have hpo := hp ps[k] (List.getElem_mem hkl)
  generalize ps[k] = p at *
  (repeat (first | refine cj_seq ?_ | (refine cj_region ?_; refine oj_run TT rfl ?_) | refine cj_skip ?_ | refine cj_block ?_ | refine nj_then ?_))
  refine oj_idx TT rfl rfl rfl rfl rfl rfl rfl rfl rfl P (by omega) hrow (oj_run TT rfl ?_)
  (repeat refine oj_then ?_)
  refine cj_if rfl (fun h => ?_) (fun h => ?_)
  · (repeat (first | refine cj_seq ?_ | (refine cj_region ?_; refine oj_run TT rfl ?_) | refine oj_then ?_ | refine cj_ret ?_ | refine nj_then_ret ?_ | refine nj_block_ret ?_))
    refine nj_ret TT rfl fun β w' _ _ => ?_
    exact ⟨false, rfl, fun h => by cases h⟩
  have hps : (p.ss.length : Int) ≤ 20 := by
    have := of_decide_eq_false h
    omega
  (repeat (first | refine cj_seq ?_ | (refine cj_region ?_; refine oj_run TT rfl ?_) | refine oj_then ?_ | refine cj_skip ?_ | refine cj_block ?_ | refine nj_then ?_))
  refine cj_loop (fun (_ : Nat) => σ) (fun j => [(0, .a (.v (.slice po ps.length pc))), (5, .a (.v (.int .i64 k))), (6, .a (.v (.int .i64 j)))]) (fun _ => []) (fun _ => []) 0
    (fun j => j ≤ p.ss.length) (fun j => p.ss.length - j) 0 (Nat.zero_le _) rfl (by (repeat (first | exact trivial | refine And.intro rfl ?_))) (by (repeat (first | exact trivial | refine And.intro rfl ?_))) rfl (by (repeat' (first | exact trivial | constructor))) (by (repeat' exact trivial)) fun j hj => ?_
  (repeat (first | refine cj_seq ?_ | (refine cj_region ?_; refine oj_run TT rfl ?_)))
  refine oj_idx TT rfl rfl rfl rfl rfl rfl rfl rfl rfl P (by omega) hrow (oj_run TT rfl ?_)
  (repeat refine oj_then ?_)
  refine cj_if rfl (fun h => ?_) (fun h => ?_)
  rotate_left
  · (repeat (first | (refine cj_region ?_; refine oj_run TT rfl ?_) | refine oj_nil ?_ | refine cj_exit ?_ | refine nj_then ?_ | refine nj_then_exit ?_ | refine nj_block ?_ | refine nj_block_out ?_ | (refine oj_add rfl rfl rfl rfl rfl rfl (by omega) ?_; refine oj_run TT rfl ?_)))
    refine nj_again (k + 1) hkl (by omega) rfl (by (repeat (first | exact trivial | refine And.intro rfl ?_))) (by (repeat (first | exact trivial | refine And.intro rfl ?_))) rfl (by (repeat' (first | exact trivial | constructor))) (by (repeat' exact trivial))
  have hjl : j < p.ss.length := by have := of_decide_eq_true h; omega
  have hsr := strRows_get (List.getElem?_eq_getElem hjl)
  generalize p.ss[j] = s at *
  (repeat (first | refine cj_seq ?_ | (refine cj_region ?_; refine oj_run TT rfl ?_) | refine cj_skip ?_ | refine cj_block ?_ | refine nj_then ?_))
  refine oj_idx TT rfl rfl rfl rfl rfl rfl rfl rfl rfl P (by omega) hrow (oj_run TT rfl ?_)
  refine oj_idx TT rfl rfl rfl rfl rfl rfl rfl rfl rfl hpo.2 (by omega) hsr (oj_run TT rfl ?_)
  (repeat refine oj_then ?_)
  refine cj_if rfl (fun h => ?_) (fun h => ?_)
  · (repeat (first | refine cj_seq ?_ | (refine cj_region ?_; refine oj_run TT rfl ?_) | refine oj_then ?_ | refine cj_ret ?_ | refine nj_then_ret ?_ | refine nj_block_ret ?_))
    refine nj_ret TT rfl fun β w' _ _ => ?_
    exact ⟨false, rfl, fun h => by cases h⟩
  · (repeat (first | (refine cj_region ?_; refine oj_run TT rfl ?_) | refine oj_nil ?_ | refine cj_skip ?_ | refine nj_then ?_ | refine nj_block ?_ | (refine oj_add rfl rfl rfl rfl rfl rfl (by omega) ?_; refine oj_run TT rfl ?_)))
    refine nj_again (j + 1) hjl (by omega) rfl (by (repeat (first | exact trivial | refine And.intro rfl ?_))) (by (repeat (first | exact trivial | refine And.intro rfl ?_))) rfl (by (repeat' (first | exact trivial | constructor))) (by (repeat' exact trivial))
end Go.Sy
namespace Go.Sy
open Go.Proofs

/-! ### Patterns of steps -/

def prefB (s p : ByteArray) : Bool := decide ((s.size : Int) ≥ p.size) && decide (s.extract 0 p.size = p)

set_option maxRecDepth 100000 in
set_option maxHeartbeats 1000000 in
theorem HasPrefix_c (σ : Snap) (s p : ByteArray) : PlainS Tryd.prog 164 [.a (.v (.string s)), .a (.v (.string p))] σ (fun v => v = .bool (prefB s p)) := by
  refine enter_p Tryd.func164 rfl rfl (by (repeat' (first | exact trivial | constructor))) fun w => ?_
  (repeat (first | refine cj_seq ?_ | (refine cj_region ?_; refine oj_run TT rfl ?_) | refine oj_then ?_))
  refine oj_split 10 rfl (fun h => ?_) (fun h => ?_)
  · have h : decide ((s.size : Int) ≥ p.size) = true := h
    have hle := of_decide_eq_true h
    refine oj_run TT rfl ?_
    refine oj_slice_str TT 0 p.size rfl rfl rfl rfl rfl rfl rfl rfl rfl (.inl ⟨rfl, rfl⟩) (.inr ⟨_, _, rfl, rfl⟩) (Nat.zero_le _) (by omega) (oj_run TT rfl ?_)
    (repeat (first | refine oj_then ?_ | refine cj_ret ?_))
    refine nj_ret TT rfl fun β w' _ _ => ?_
    unfold prefB
    rw [h, Bool.true_and]
    rfl
  · have h : decide ((s.size : Int) ≥ p.size) = false := h
    refine oj_run TT rfl ?_
    (repeat (first | refine oj_then ?_ | refine cj_ret ?_))
    refine nj_ret TT rfl fun β w' _ _ => ?_
    unfold prefB
    rw [h, Bool.false_and]
    rfl

def cutB (s p : ByteArray) : ByteArray := if prefB s p then s.extract p.size s.size else s

set_option maxRecDepth 100000 in
set_option maxHeartbeats 1000000 in
theorem CutPrefix0_c (σ : Snap) (s p : ByteArray) : PlainS Tryd.prog 152 [.a (.v (.string s)), .a (.v (.string p))] σ (fun v => v = .tuple #[.string (cutB s p), .bool (prefB s p)]) := by
  refine enter_p Tryd.func152 rfl rfl (by (repeat' (first | exact trivial | constructor))) fun w => ?_
  (repeat (first | refine cj_seq ?_ | (refine cj_region ?_; refine oj_run TT rfl ?_) | refine oj_then ?_))
  refine oj_callP rfl rfl rfl rfl rfl Tryd.call164 (by (repeat' (first | exact trivial | constructor))) (HasPrefix_c σ s p) fun v hv => ⟨.a (.b (prefB s p)), trivial, hv.symm, ?_⟩
  refine oj_run TT rfl ?_
  (repeat refine oj_then ?_)
  refine cj_if rfl (fun h => ?_) (fun h => ?_)
  · have h : prefB s p = false := by simpa using h
    (repeat (first | refine cj_seq ?_ | (refine cj_region ?_; refine oj_run TT rfl ?_) | refine oj_then ?_ | refine cj_ret ?_ | refine nj_then_ret ?_))
    refine nj_ret TT rfl fun β w' _ _ => ?_
    unfold cutB
    rw [h]
    rfl
  · have h : prefB s p = true := by simpa using h
    have hle : p.size ≤ s.size := by
      unfold prefB at h
      rw [Bool.and_eq_true] at h
      have := of_decide_eq_true h.1
      omega
    (repeat (first | refine cj_seq ?_ | (refine cj_region ?_; refine oj_run TT rfl ?_) | refine cj_skip ?_ | refine nj_then ?_))
    refine oj_slice_str TT p.size s.size rfl rfl rfl rfl rfl rfl rfl rfl rfl (.inr ⟨_, _, rfl, rfl⟩) (.inl ⟨rfl, rfl⟩) hle (Nat.le_refl _) (oj_run TT rfl ?_)
    (repeat (first | refine oj_then ?_ | refine cj_ret ?_))
    refine nj_ret TT rfl fun β w' _ _ => ?_
    unfold cutB
    rw [h]
    rfl

set_option maxRecDepth 100000 in
set_option maxHeartbeats 1000000 in
theorem CutPrefix_c (σ : Snap) (s p : ByteArray) : PlainS Tryd.prog 143 [.a (.v (.string s)), .a (.v (.string p))] σ (fun v => v = .tuple #[.string (cutB s p), .bool (prefB s p)]) := by
  refine enter_p Tryd.func143 rfl rfl (by (repeat' (first | exact trivial | constructor))) fun w => ?_
  (repeat (first | refine cj_seq ?_ | (refine cj_region ?_; refine oj_run TT rfl ?_) | refine oj_then ?_))
  refine oj_callP rfl rfl rfl rfl rfl Tryd.call152 (by (repeat' (first | exact trivial | constructor))) (CutPrefix0_c σ s p) fun v hv => ⟨.tup [.a (.v (.string (cutB s p))), .a (.b (prefB s p))], (by (repeat' (first | exact trivial | refine SV.lt_tup ?_ | constructor))), hv.symm, ?_⟩
  refine oj_run TT rfl ?_
  (repeat (first | refine oj_then ?_ | refine cj_ret ?_))
  refine nj_ret TT rfl fun β w' _ _ => ?_
  rfl

structure GPat where
  what : Int
  name : ByteArray
def ptCells (p : GPat) : List AT := [.v (.int .i64 p.what), .v (.string p.name)]
def ptRows (l : List GPat) : List (List AT) := l.map ptCells
theorem ptRows_get {l : List GPat} {i : Nat} {x : GPat} (h : l[i]? = some x) : (ptRows l)[i]? = some (ptCells x) := by unfold ptRows; rw [List.getElem?_map, h]; rfl

def dotP : ByteArray := ⟨#[46]⟩
def elemP : ByteArray := ⟨#[91, 93]⟩
def fitsP (p : GPat) (s : ByteArray) : Bool := if p.what = 1 then (prefB s dotP && decide (cutB s dotP = p.name)) else if p.what = 2 then true else if p.what = 3 then decide (s = elemP) else false

set_option maxRecDepth 100000 in
set_option maxHeartbeats 1000000 in
theorem fitsP_c (σ : Snap) (p : GPat) (s : ByteArray) : PlainS Tryd.prog 128 [.agg (ptCells p), .a (.v (.string s))] σ (fun v => v = .bool (fitsP p s)) := by
  have hf : fitsP p s = if p.what = 1 then (prefB s dotP && decide (cutB s dotP = p.name)) else if p.what = 2 then true else if p.what = 3 then decide (s = elemP) else false := rfl
  refine enter_p Tryd.func128 rfl rfl ⟨(by unfold ptCells; (repeat' (first | exact trivial | refine AllLt.of ?_ | constructor))), trivial, trivial⟩ fun w => ?_
  (repeat (first | refine cj_seq ?_ | (refine cj_region ?_; refine oj_run TT rfl ?_) | refine oj_then ?_ | refine cj_block ?_))
  refine cj_if rfl (fun h => ?_) (fun h => ?_)
  · rw [if_pos (of_decide_eq_true h)] at hf
    (repeat (first | refine cj_seq ?_ | (refine cj_region ?_; refine oj_run TT rfl ?_)))
    refine oj_callP rfl rfl rfl rfl rfl Tryd.call143 (by (repeat' (first | exact trivial | constructor))) (CutPrefix_c σ s dotP) fun v hv => ⟨.tup [.a (.v (.string (cutB s dotP))), .a (.b (prefB s dotP))], (by (repeat' (first | exact trivial | refine SV.lt_tup ?_ | constructor))), hv.symm, ?_⟩
    refine oj_run TT rfl ?_
    (repeat (first | refine cj_seq ?_ | (refine cj_region ?_; refine oj_run TT rfl ?_) | refine oj_then ?_))
    refine oj_split 17 rfl (fun h => ?_) (fun h => ?_)
    · have h : prefB s dotP = true := h
      refine oj_run TT rfl ?_
      (repeat (first | refine oj_then ?_ | refine cj_ret ?_ | refine nj_then_ret ?_ | refine nj_block_ret ?_))
      refine nj_ret TT rfl fun β w' _ _ => ?_
      rw [hf, h, Bool.true_and]
      rfl
    · have h : prefB s dotP = false := h
      refine oj_run TT rfl ?_
      (repeat (first | refine oj_then ?_ | refine cj_ret ?_ | refine nj_then_ret ?_ | refine nj_block_ret ?_))
      refine nj_ret TT rfl fun β w' _ _ => ?_
      rw [hf, h, Bool.false_and]
      rfl
  rw [if_neg (of_decide_eq_false h)] at hf
  (repeat (first | refine cj_seq ?_ | (refine cj_region ?_; refine oj_run TT rfl ?_) | refine oj_then ?_))
  refine cj_if rfl (fun h => ?_) (fun h => ?_)
  · rw [if_pos (of_decide_eq_true h)] at hf
    (repeat (first | refine cj_seq ?_ | (refine cj_region ?_; refine oj_run TT rfl ?_) | refine oj_then ?_ | refine cj_ret ?_ | refine nj_then_ret ?_ | refine nj_block_ret ?_))
    refine nj_ret TT rfl fun β w' _ _ => ?_
    rw [hf]
    rfl
  rw [if_neg (of_decide_eq_false h)] at hf
  (repeat (first | refine cj_seq ?_ | (refine cj_region ?_; refine oj_run TT rfl ?_) | refine oj_then ?_))
  refine cj_if rfl (fun h => ?_) (fun h => ?_)
  · rw [if_pos (of_decide_eq_true h)] at hf
    (repeat (first | refine cj_seq ?_ | (refine cj_region ?_; refine oj_run TT rfl ?_) | refine oj_then ?_ | refine cj_ret ?_ | refine nj_then_ret ?_ | refine nj_block_ret ?_))
    refine nj_ret TT rfl fun β w' _ _ => ?_
    rw [hf]
    rfl
  rw [if_neg (of_decide_eq_false h)] at hf
  (repeat (first | refine cj_seq ?_ | (refine cj_region ?_; refine oj_run TT rfl ?_) | refine oj_then ?_ | refine cj_skip ?_ | refine cj_ret ?_ | refine nj_then ?_ | refine nj_block ?_))
  refine nj_ret TT rfl fun β w' _ _ => ?_
  rw [hf]
  rfl

/-! ### all -/

structure AlS where
  k : Nat
  o : List Int
  oo : Option Addr
  oc : Nat

/-- The IDs of the lines of which q holds, at their places. -/
def allG (q : Nat → GLine → Bool) : List GLine → Nat → List Int
  | [], _ => []
  | x :: l, k => if q k x then x.id :: allG q l (k + 1) else allG q l (k + 1)

set_option maxRecDepth 100000 in
set_option maxHeartbeats 1000000 in
theorem all_c (σ : Snap) (xs : List GLine) (hl : xs.length ≤ 1000000) (ao : Option Addr) (cap : Nat) (next : Int) (H : SlAt σ ao xs.length cap 3 (lnRows xs)) (f : FuncId) (caps : List PT) (hcap : LtAll (caps.map ptSV))
    (hcall : ∀ args w, (callFunc f args).run Tryd.prog w = .ok (.enter f args) w) (q : Nat → GLine → Bool) (hq : ∀ (k : Nat) x, xs[k]? = some x → PlainS Tryd.prog f (.a (.v (.int .i64 k)) :: .agg (lnCells x) :: caps.map ptSV) σ (fun v => v = .bool (q k x))) (hlt : (SV.a (.fn (.func f) caps)).lt 0) :
    PureS Tryd.prog 94 [.agg [.v (.slice ao xs.length cap), .v (.int .i64 next)], .a (.fn (.func f) caps)] σ (fun v σ' => ∃ oo oc, v = .slice oo (allG q xs 0).length oc ∧ SlAt σ' oo (allG q xs 0).length oc 1 (idRows (allG q xs 0))) := by
  refine enter_s Tryd.func94 rfl rfl ⟨(by (repeat' (first | exact trivial | refine AllLt.of ?_ | constructor))), hlt, trivial⟩ fun w => ?_
  (repeat (first | refine cj_seq ?_ | (refine cj_region ?_; refine oj_run TT rfl ?_) | refine oj_then ?_ | refine cj_block ?_))
  refine cj_nilarr 3 1 ?_
  skip
  refine cj_loop (fun (_ : AlS) => σ) (fun t => [(1, .a (.fn (.func f) caps)), (5, .a (.v (.slice t.oo t.o.length t.oc))), (9, .a (.v (.slice ao xs.length cap))), (10, .a (.v (.int .i64 xs.length))), (11, .a (.v (.int .i64 (t.k : Nat))))]) (fun _ => []) (fun t => [idE t.oo t.oc t.o]) 0
    (fun t => t.k ≤ xs.length ∧ t.o ++ allG q (xs.drop t.k) t.k = allG q xs 0 ∧ t.o.length ≤ t.oc ∧ t.o.length ≤ t.k) (fun t => xs.length - t.k) ⟨0, [], none, 0⟩ ⟨Nat.zero_le _, rfl, Nat.le_refl _, Nat.le_refl _⟩ rfl (by (repeat (first | exact trivial | refine And.intro rfl ?_))) (by (repeat (first | exact trivial | refine And.intro rfl ?_))) rfl ⟨hlt, trivial, trivial, trivial, trivial, trivial⟩ trivial fun ⟨k, o, oo, oc⟩ ⟨hk, hp, hoc, hok⟩ => ?_
  dsimp only at hk hp hoc hok ⊢
  (repeat (first | refine cj_seq ?_ | (refine cj_region ?_; refine oj_run TT rfl ?_) | refine oj_then ?_))
  refine cj_if rfl (fun h => ?_) (fun h => ?_)
  rotate_left
  · have hk0 : k = xs.length := by have := of_decide_eq_false h; omega
    rw [hk0, List.drop_length, allG, List.append_nil] at hp
    subst hp
    (repeat (first | refine cj_seq ?_ | (refine cj_region ?_; refine oj_run TT rfl ?_) | refine oj_then ?_ | refine cj_exit ?_ | refine cj_ret ?_ | refine nj_then ?_ | refine nj_then_exit ?_ | refine nj_block_out ?_))
    refine nj_seal 0 rfl rfl fun σ' hle' hS => ?_
    refine nj_ret TT rfl fun β w' _ _ => ?_
    exact ⟨oo, oc, rfl, id_sealed hS hoc⟩
  have hkl : k < xs.length := by have := of_decide_eq_true h; omega
  have hxk : xs[k]? = some xs[k] := List.getElem?_eq_getElem hkl
  have hra := lnRows_get hxk
  have hqx := hq k xs[k] hxk
  rw [List.drop_eq_getElem_cons hkl, allG] at hp
  generalize xs[k] = x at *
  (repeat (first | refine cj_seq ?_ | (refine cj_region ?_; refine oj_run TT rfl ?_) | refine cj_skip ?_ | refine cj_block ?_ | refine nj_then ?_))
  refine oj_idx TT rfl rfl rfl rfl rfl rfl rfl rfl rfl H (by omega) hra (oj_run TT rfl ?_)
  (repeat (first | refine cj_seq ?_ | (refine cj_region ?_; refine oj_run TT rfl ?_) | refine oj_then ?_))
  refine oj_callP (ys := .a (.v (.int .i64 k)) :: .agg (lnCells x) :: caps.map ptSV) rfl rfl rfl rfl rfl hcall ⟨trivial, lnCells_lt 0 x, hcap⟩ hqx fun v hv => ⟨.a (.b (q k x)), trivial, hv.symm, ?_⟩
  refine oj_run TT rfl ?_
  (repeat refine oj_then ?_)
  refine cj_if rfl (fun h => ?_) (fun h => ?_)
  · rw [h, if_pos rfl] at hp
    (repeat (refine cj_region ?_; refine oj_run TT rfl ?_))
    refine oj_append_lit TT 0 rfl rfl rfl rfl rfl rfl rfl rfl rfl rfl rfl rfl rfl rfl rfl rfl rfl rfl (by (repeat' (first | exact trivial | refine AllLt.of ?_ | constructor))) rfl (by omega) (by show (o.length + 1) * 8 ≤ _; omega) fun oo' oc' hoc' => oj_run TT rfl ?_
    (repeat (first | (refine cj_region ?_; refine oj_run TT rfl ?_) | refine oj_nil ?_ | refine nj_then ?_ | refine nj_block ?_ | (refine oj_add rfl rfl rfl rfl rfl rfl (by omega) ?_; refine oj_run TT rfl ?_)))
    refine nj_again (⟨k + 1, o ++ [x.id], oo', oc'⟩ : AlS) ⟨hkl, by dsimp only; rw [List.append_assoc]; exact hp, by dsimp only; rw [List.length_append]; exact hoc', by dsimp only; rw [List.length_append, List.length_singleton]; omega⟩ (by dsimp only; omega) rfl ?_ (by (repeat (first | exact trivial | refine And.intro rfl ?_))) ?_ ⟨hlt, trivial, trivial, trivial, trivial, trivial⟩ trivial
    · dsimp only
      rw [List.length_append]
      (repeat (first | exact trivial | refine And.intro rfl ?_))
    · show [_] = [_]
      dsimp only
      unfold idE idXs
      rw [List.map_append, List.length_append]
      rfl
  · rw [h, if_neg (by simp)] at hp
    (repeat (first | (refine cj_region ?_; refine oj_run TT rfl ?_) | refine oj_nil ?_ | refine cj_skip ?_ | refine nj_then ?_ | refine nj_block ?_ | (refine oj_add rfl rfl rfl rfl rfl rfl (by omega) ?_; refine oj_run TT rfl ?_)))
    refine nj_again (⟨k + 1, o, oo, oc⟩ : AlS) ⟨hkl, hp, hoc, by dsimp only; omega⟩ (by dsimp only; omega) rfl (by (repeat (first | exact trivial | refine And.intro rfl ?_))) (by (repeat (first | exact trivial | refine And.intro rfl ?_))) rfl ⟨hlt, trivial, trivial, trivial, trivial, trivial⟩ trivial
end Go.Sy
