/- Parts of the proof of CEditsMany: F21, F22, SyR, F23, F24, Ld, F25, SyS. No conditions. -/
import Derived.Test.YtadnijcgohflhaaDoorM8
namespace Go.Sy
open Go.Proofs

/-! ### ShredCounts -/

def metK (S : Sk) (n i : Nat) (ks : List Nat) : List Nat := (List.range n).map fun m => sumP S m 0 i + ks.count m
theorem metK_len (S : Sk) (n i : Nat) (ks : List Nat) : (metK S n i ks).length = n := by simp [metK]
theorem metK_get (S : Sk) (n i : Nat) (ks : List Nat) {m : Nat} (h : m < n) : (metK S n i ks)[m]? = some (sumP S m 0 i + ks.count m) := by
  simp [metK, h]
theorem metK_zero (S : Sk) (n : Nat) : metK S n 0 [] = List.replicate n 0 := by
  apply List.ext_getElem
  · simp [metK]
  · intro j h1 h2
    simp [metK, sumP]
theorem metK_next (S : Sk) (n i : Nat) : metK S n i (kidsAt S i) = metK S n (i + 1) [] := by
  unfold metK
  refine List.map_congr_left fun m _ => ?_
  show _ = sumP S m 0 i + (kidsAt S (0 + i)).count m + 0
  rw [Nat.zero_add]
  rfl
theorem metK_inc (S : Sk) (n i : Nat) (ks : List Nat) (m : Nat) : (metK S n i ks).set m (sumP S m 0 i + ks.count m + 1) = metK S n i (ks ++ [m]) := by
  apply List.ext_getElem
  · simp [metK]
  · intro j h1 h2
    simp only [metK, List.getElem_set, List.getElem_map, List.getElem_range, List.count_append, List.count_cons, List.count_nil]
    by_cases hj : m = j
    · subst hj
      simp
      omega
    · rw [if_neg hj, if_neg (by simpa using hj)]
      omega

def mtE (g n : Nat) (xs : List Nat) : AE := ⟨some ⟨g, 0, none⟩, n, n, 3, 1, intVs' xs⟩

set_option maxRecDepth 100000 in
set_option maxHeartbeats 1000000 in
theorem ShredCounts_c (σ : Snap) (g : GVal) (r : List AT) (gap : Int) (hr : RepV σ g r) :
    PlainS Tryd.prog 5 [.agg r, .a (.v (.int .i64 gap))] σ (fun v => v = .bool true) := by
  obtain ⟨la, lc, lrows, ma, mc, vrows, rfl, V⟩ := hr.open
  refine enter_p Tryd.func5 rfl rfl (by (repeat' (first | exact trivial | exact vCells_lt _ _ _ _ _ _ | constructor))) fun w => ?_
  (repeat (first | refine cj_seq ?_ | (refine cj_region ?_; refine oj_run TT rfl ?_) | refine oj_then ?_))
  refine oj_callP rfl rfl rfl rfl rfl Tryd.call18 (by (repeat' exact trivial)) (awake11_c σ) fun v hv => ⟨.a .tt, trivial, hv.symm, ?_⟩
  refine oj_run TT rfl ?_
  (repeat (first | refine cj_seq ?_ | (refine cj_region ?_; refine oj_run TT rfl ?_) | refine oj_then ?_))
  refine oj_callP rfl rfl rfl rfl rfl Tryd.call19 (by (repeat' (first | exact trivial | exact vCells_lt _ _ _ _ _ _ | constructor))) (Few_c σ g _ 800 V.rep (by omega) (by omega)) fun v ⟨fb, hv, hfew⟩ => ⟨.a (.b fb), trivial, hv.symm, ?_⟩
  refine oj_run TT rfl ?_
  skip
  refine oj_split 18 rfl (fun h => ?_) (fun h => ?_)
  · refine oj_run TT rfl ?_
    (repeat (first | refine cj_seq ?_ | (refine cj_region ?_; refine oj_run TT rfl ?_) | refine oj_then ?_ | refine cj_if_t rfl ?_ | refine cj_ret ?_ | refine nj_then_ret ?_))
    refine nj_ret TT rfl fun β w' _ _ => ?_
    rfl
  have hw : g.weight ≤ 800 := by
    have := hfew (by simpa using h)
    omega
  refine oj_run TT rfl ?_
  skip
  refine oj_callP rfl rfl rfl rfl rfl Tryd.call20 (by (repeat' (first | exact trivial | exact vCells_lt _ _ _ _ _ _ | constructor))) (Sane_c σ g _ V.rep (by omega)) fun v hv => ⟨.a (.v (.int .i64 (sane g))), trivial, hv.symm, ?_⟩
  refine oj_run TT rfl ?_
  skip
  refine oj_split 23 rfl (fun h => ?_) (fun h => ?_)
  · refine oj_run TT rfl ?_
    (repeat (first | refine cj_seq ?_ | (refine cj_region ?_; refine oj_run TT rfl ?_) | refine oj_then ?_ | refine cj_if_t rfl ?_ | refine cj_ret ?_ | refine nj_then_ret ?_))
    refine nj_ret TT rfl fun β w' _ _ => ?_
    rfl
  have hs : sane g = 0 := by simpa using h
  refine oj_run TT rfl ?_
  skip
  refine oj_callP rfl rfl rfl rfl rfl Tryd.call25 (by (repeat' (first | exact trivial | exact vCells_lt _ _ _ _ _ _ | constructor))) (Count_c g σ _ V.rep (by omega)) fun v hv => ⟨.a (.v (.int .i64 (cntV g))), trivial, hv.symm, ?_⟩
  refine oj_run TT rfl ?_
  (repeat refine oj_then ?_)
  refine cj_if rfl (fun h => ?_) (fun h => ?_)
  · (repeat (first | refine cj_seq ?_ | (refine cj_region ?_; refine oj_run TT rfl ?_) | refine oj_then ?_ | refine cj_ret ?_ | refine nj_then_ret ?_))
    refine nj_ret TT rfl fun β w' _ _ => ?_
    rfl
  have hc120 : (cntV g : Int) ≤ 120 := by have := of_decide_eq_false h; omega
  have hmask := bAnd_le gap 31 (by omega) (by omega)
  (repeat (first | refine cj_seq ?_ | (refine cj_region ?_; refine oj_run TT rfl ?_) | refine cj_skip ?_ | refine nj_then ?_ | (refine oj_band rfl rfl rfl rfl rfl rfl ?_; refine oj_run TT rfl ?_) | (refine oj_add rfl rfl rfl rfl rfl rfl (by omega) ?_; refine oj_run TT rfl ?_)))
  generalize bAnd .i64 gap 31 = j at hmask ⊢
  skip
  refine oj_callS rfl rfl rfl rfl rfl Tryd.call21 ⟨vCells_lt _ _ _ _ _ _, trivial, trivial⟩ (Shred_s σ g _ (1 + j) V.rep (by omega)) fun v σ1 hle1 ⟨ao, cap, hv, H⟩ => ⟨.tup [.a (.v (.slice ao (shredG g (1 + j)).1.length cap)), .a (.v (.int .i64 (shredG g (1 + j)).2))], (by (repeat' (first | exact trivial | refine SV.lt_tup ?_ | constructor))), hv.symm, ?_⟩
  rw [shredG_k (by omega) (by omega), if_neg (by simp [hs])] at H ⊢
  dsimp only at H ⊢
  have hcnt := shredV_cnt (1 + j) g 0 false emptyS 0 V.rep.wf
  obtain ⟨hlen1, hlen2⟩ := shredV_len (1 + j) g 0 false emptyS 0
  have hfit := shredV_fit (1 + j) g _ 0 false emptyS 0 V.rep (by decide)
  have hkk : (1 + j) * (cntV g : Int) ≤ 32 * 120 := Int.mul_le_mul (by omega) (by omega) (by omega) (by omega)
  have hbd : buildR (shredV (1 + j) g 0 false emptyS 0).1 = (g, 0) := by
    have := buildR_shred (φ := fun x => x) (fun a b _ h => h) (gap := 1 + j) (by omega) (by omega) g V.rep.wf hs (by omega) (by rw [hlen2, hcnt, Int.mul_assoc]; omega)
    rw [stE_id, List.map_id] at this
    exact this
  have hBG : buildG (shredV (1 + j) g 0 false emptyS 0).1 = (g, []) := by
    have := build_shred (fun x => x) (1 + j) g false emptyS 0 V.rep.wf
    rw [stE_id, List.map_id] at this
    exact this
  have hsound : soundG (shredV (1 + j) g 0 false emptyS 0).1 = true := by
    unfold soundG
    rw [hbd]
    rfl
  obtain ⟨hT1, hT2⟩ := shred_tree (gap := 1 + j) (by omega) g 0 false emptyS V.rep.wf
  generalize (shredV (1 + j) g 0 false emptyS 0).1 = L at *
  have hpos := cntV_pos g
  rw [← hcnt] at hT1 hT2 hpos hc120
  refine oj_run TT rfl ?_
  (repeat (first | refine cj_seq ?_ | (refine cj_region ?_; refine oj_run TT rfl ?_) | refine oj_then ?_))
  refine oj_split 39 rfl (fun h => absurd h (by decide)) (fun h => ?_)
  refine oj_run TT rfl ?_
  (repeat refine oj_then ?_)
  refine cj_if rfl (fun h => ?_) (fun h => ?_)
  · have := of_decide_eq_true h
    omega
  (repeat (first | refine cj_seq ?_ | (refine cj_region ?_; refine oj_run TT rfl ?_) | refine cj_skip ?_ | refine nj_then ?_))
  have R : RecsOk L := ⟨by simp only [mostLen]; omega, hfit, fun _ => by rw [hBG]; show g.weight ≤ _; omega⟩
  refine oj_makeSlice TT rfl rfl rfl rfl rfl rfl rfl rfl rfl rfl rfl rfl trivial (by show L.length * 8 ≤ _; omega) (by omega) fun gm => ?_
  have hz : ∀ n : Nat, List.replicate n (Value.int .i64 0) = intVs' (metK (L.map se) n 0 []) := fun n => by rw [metK_zero]; unfold intVs'; rw [List.map_replicate]; rfl
  refine oj_run TT rfl ?_
  (repeat (first | refine cj_seq ?_ | (refine cj_region ?_; refine oj_run TT rfl ?_) | refine oj_then ?_ | refine cj_block ?_))
  refine cj_cutB (fun (s : Snap) => s) (fun _ => [(5, .a .tt), (8, .a (.v (.slice (some ⟨gm, 0, none⟩) L.length L.length)))]) (fun _ => []) (fun _ => [mtE gm L.length (metK (L.map se) L.length L.length [])]) 0 (fun s => σ1.le s) ?_ (fun s hs1 => ?_)
  · refine cj_loop2 (fun (s : Snap) (_ : Nat) => s) (fun _ i => [(5, .a .tt), (6, .a (.v (.slice ao L.length cap))), (8, .a (.v (.slice (some ⟨gm, 0, none⟩) L.length L.length))), (9, .a (.v (.int .i64 (i : Int))))]) (fun _ _ => [])
      (fun _ i => [mtE gm L.length (metK (L.map se) L.length i [])]) 0 (fun s i => i ≤ L.length ∧ σ1.le s) (fun _ i => L.length - i) σ1 0 ⟨Nat.zero_le _, Snap.le_refl _⟩ rfl (by (repeat (first | exact trivial | refine And.intro rfl ?_))) (by (repeat (first | exact trivial | refine And.intro rfl ?_))) (by unfold mtE; rw [← hz]; rfl) (by (repeat' (first | exact trivial | constructor))) (by (repeat' exact trivial)) fun s i ⟨hi, hs⟩ => ?_
    have H := H.mono hs
    (repeat (first | refine cj_seq ?_ | (refine cj_region ?_; refine oj_run TT rfl ?_) | refine oj_then ?_))
    refine cj_if rfl (fun h => ?_) (fun h => ?_)
    rotate_left
    · have hi0 : i = L.length := by have := of_decide_eq_false h; omega
      subst hi0
      (repeat (first | refine cj_exit ?_ | refine nj_then_exit ?_ | refine nj_block_out ?_))
      refine nj_again s hs Nat.zero_lt_one rfl (by (repeat (first | exact trivial | refine And.intro rfl ?_))) (by (repeat (first | exact trivial | refine And.intro rfl ?_))) rfl (by (repeat' (first | exact trivial | constructor))) (by (repeat' exact trivial))
    have hil : i < L.length := by have := of_decide_eq_true h; omega
    obtain ⟨y, hy1, hy2⟩ := hT1 i (by omega)
    have hrow := recRows_get (List.getElem?_eq_getElem hil)
    have hy : y = se L[i] := by
      rw [List.getElem?_map, List.getElem?_eq_getElem hil] at hy1
      exact (Option.some.inj hy1).symm
    subst hy
    have hkids := Kids_c s L R ao cap H i hil hsound (by omega)
    rw [kidsG_se] at hkids
    generalize L[i] = x at *
    (repeat (first | refine cj_seq ?_ | (refine cj_region ?_; refine oj_run TT rfl ?_) | refine cj_skip ?_ | refine cj_block ?_ | refine nj_then ?_))
    refine oj_callS rfl rfl rfl rfl rfl Tryd.call26 ⟨trivial, trivial, trivial⟩ hkids fun v σ2 hle2 ⟨oo, oc, hv, HK⟩ => ⟨.a (.v (.slice oo (kidsAt (L.map se) i).length oc)), trivial, hv.symm, ?_⟩
    have H := H.mono hle2
    have hs2 := Snap.le_trans hs hle2
    have hnext := metK_next (L.map se) L.length i
    have hsum1 : ∀ m, sumP (L.map se) m 0 i + (kidsAt (L.map se) i).count m ≤ 1 := fun m => by
      have e1 : sumP (L.map se) m 0 (i + 1) = sumP (L.map se) m 0 i + (kidsAt (L.map se) i).count m := by
        show sumP (L.map se) m 0 i + (kidsAt (L.map se) (0 + i)).count m = _
        rw [Nat.zero_add]
      have e2 := sumP_add (L.map se) m 0 (i + 1) (L.length - (i + 1))
      rw [show i + 1 + (L.length - (i + 1)) = L.length by omega, hT2 m] at e2
      have e3 : ind 1 L.length m ≤ 1 := by unfold ind; split <;> omega
      omega
    have hklen : (kidsAt (L.map se) i).length ≤ L.length := by
      rw [← kidsG_se]
      unfold kidsG
      exact Nat.le_trans (kidsF_len L _ L.length (i + 1)) (Nat.sub_le _ _)
    generalize kidsAt (L.map se) i = ks at *
    refine oj_run TT rfl ?_
    (repeat (first | refine cj_seq ?_ | (refine cj_region ?_; refine oj_run TT rfl ?_) | refine oj_then ?_))
    refine oj_idx TT rfl rfl rfl rfl rfl rfl rfl rfl rfl H (by omega) hrow (oj_run TT rfl ?_)
    (repeat (first | refine cj_seq ?_ | (refine cj_region ?_; refine oj_run TT rfl ?_) | refine oj_then ?_ | refine cj_block ?_))
    refine cj_loop2 (fun _ _ => σ2) (fun (k : Nat) (last : Int) => [(5, .a .tt), (6, .a (.v (.slice ao L.length cap))), (8, .a (.v (.slice (some ⟨gm, 0, none⟩) L.length L.length))), (9, .a (.v (.int .i64 (i : Int)))), (10, .a (.v (.slice oo ks.length oc))), (11, .a (.v (.int .i64 last))), (12, .a (.v (.int .i64 (k : Int))))]) (fun _ _ => [])
      (fun k _ => [mtE gm L.length (metK (L.map se) L.length i (ks.take k))]) 0 (fun k last => k ≤ ks.length ∧ chain (L.map se) x.en last (ks.drop k)) (fun k _ => ks.length - k) 0 x.st ⟨Nat.zero_le _, hy2⟩ rfl (by (repeat (first | exact trivial | refine And.intro rfl ?_))) (by (repeat (first | exact trivial | refine And.intro rfl ?_))) rfl (by (repeat' (first | exact trivial | constructor))) (by (repeat' exact trivial)) fun k last ⟨hk, hch⟩ => ?_
    (repeat (first | refine cj_seq ?_ | (refine cj_region ?_; refine oj_run TT rfl ?_) | refine oj_then ?_))
    refine cj_if rfl (fun h => ?_) (fun h => ?_)
    rotate_left
    · have hk0 : k = ks.length := by have := of_decide_eq_false h; omega
      subst hk0
      rw [List.take_length, hnext]
      (repeat (first | (refine cj_region ?_; refine oj_run TT rfl ?_) | refine oj_nil ?_ | refine cj_exit ?_ | refine nj_then ?_ | refine nj_then_exit ?_ | refine nj_block ?_ | refine nj_block_out ?_ | (refine oj_add rfl rfl rfl rfl rfl rfl (by omega) ?_; refine oj_run TT rfl ?_)))
      refine nj_again (σ2, i + 1) ⟨hil, hs2⟩ (by dsimp only; omega) rfl (by (repeat (first | exact trivial | refine And.intro rfl ?_))) (by (repeat (first | exact trivial | refine And.intro rfl ?_))) rfl (by (repeat' (first | exact trivial | constructor))) (by (repeat' exact trivial))
    have hkl : k < ks.length := by have := of_decide_eq_true h; omega
    have hkr : (kidRows ks)[k]? = some [.v (.int .i64 (ks[k] : Nat))] := by unfold kidRows; rw [List.getElem?_map, List.getElem?_eq_getElem hkl]; rfl
    have htake : ks.take (k + 1) = ks.take k ++ [ks[k]] := List.take_succ_eq_append_getElem hkl
    rw [List.drop_eq_getElem_cons hkl] at hch
    generalize ks[k] = m at *
    obtain ⟨y, hm1, hm2, hm3, hch⟩ := hch
    have hml : m < L.length := by
      have := (List.getElem?_eq_some_iff.1 hm1).1
      rwa [List.length_map] at this
    have hrowm := recRows_get (List.getElem?_eq_getElem hml)
    have hy : y = se L[m] := by
      rw [List.getElem?_map, List.getElem?_eq_getElem hml] at hm1
      exact (Option.some.inj hm1).symm
    subst hy
    generalize L[m] = z at *
    have hm2 : last < z.st := hm2
    have hm3 : z.en < x.en := hm3
    (repeat (first | refine cj_seq ?_ | refine cj_skip ?_ | refine cj_block ?_ | refine nj_then ?_))
    refine cj_draw [(0,.pure),(1,.pure),(2,.pure),(3,.quiet),(4,.pure),(5,.pure),(6,.pure),(7,.pure),(8,.pure),(9,.quiet),(10,.pure),(11,.pure),(12,.pure),(13,.pure),(14,.pure),(15,.pure),(16,.pure),(17,.pure),(18,.pure),(19,.quiet),(20,.pure),(21,.pure),(22,.quiet),(23,.pure),(24,.pure),(25,.pure),(26,.pure),(27,.pure),(28,.pure),(29,.pure),(30,.pure),(31,.quiet),(32,.pure),(33,.pure),(34,.quiet),(35,.pure),(36,.pure),(37,.pure),(38,.pure),(39,.quiet),(40,.pure),(41,.pure)] mixed (by kernel_rfl) (oj_run TT rfl ?_)
    refine oj_idx TT rfl rfl rfl rfl rfl rfl rfl rfl rfl HK (by omega) hkr (oj_run TT rfl ?_)
    skip
    refine oj_split 72 rfl (fun h => absurd (of_decide_eq_true h) (by omega)) (fun _ => ?_)
    refine oj_run TT rfl ?_
    refine oj_idx TT rfl rfl rfl rfl rfl rfl rfl rfl rfl HK (by omega) hkr (oj_run TT rfl ?_)
    skip
    refine oj_split 81 rfl (fun h => absurd (of_decide_eq_true h) (by omega)) (fun _ => ?_)
    refine oj_run TT rfl ?_
    refine oj_idx TT rfl rfl rfl rfl rfl rfl rfl rfl rfl HK (by omega) hkr (oj_run TT rfl ?_)
    refine oj_idx TT rfl rfl rfl rfl rfl rfl rfl rfl rfl H (by omega) hrowm (oj_run TT rfl ?_)
    skip
    refine oj_split 93 rfl (fun h => absurd (of_decide_eq_true h) (by omega)) (fun _ => ?_)
    refine oj_run TT rfl ?_
    refine oj_idx TT rfl rfl rfl rfl rfl rfl rfl rfl rfl HK (by omega) hkr (oj_run TT rfl ?_)
    refine oj_idx TT rfl rfl rfl rfl rfl rfl rfl rfl rfl H (by omega) hrowm (oj_run TT rfl ?_)
    refine oj_idx TT rfl rfl rfl rfl rfl rfl rfl rfl rfl H (by omega) hrow (oj_run TT rfl ?_)
    (repeat refine oj_then ?_)
    refine cj_if rfl (fun h => absurd (of_decide_eq_true h) (by omega)) (fun _ => ?_)
    (repeat (first | refine cj_seq ?_ | (refine cj_region ?_; refine oj_run TT rfl ?_) | refine cj_skip ?_ | refine nj_then ?_))
    refine oj_idx TT rfl rfl rfl rfl rfl rfl rfl rfl rfl HK (by omega) hkr (oj_run TT rfl ?_)
    refine oj_idx TT rfl rfl rfl rfl rfl rfl rfl rfl rfl H (by omega) hrowm (oj_run TT rfl ?_)
    (repeat (first | (refine cj_region ?_; refine oj_run TT rfl ?_) | refine oj_then ?_))
    refine oj_idx TT rfl rfl rfl rfl rfl rfl rfl rfl rfl HK (by omega) hkr (oj_run TT rfl ?_)
    skip
    have had : some (SV.a (AT.v (.pointer (some (Addr.add ⟨gm, 0, none⟩ ((m : Int).toNat * 1)))))) = some (SV.a (AT.v (.pointer (some ⟨gm, m, none⟩)))) := by
      rw [Int.toNat_natCast, Nat.mul_one, add0]
    have hget := metK_get (L.map se) L.length i (ks.take k) hml
    have hinc := metK_inc (L.map se) L.length i (ks.take k) m
    have hv1 : sumP (L.map se) m 0 i + (ks.take k).count m ≤ 1 := by
      have := hsum1 m
      have := (List.take_sublist k ks).count_le m
      omega
    generalize sumP (L.map se) m 0 i + (ks.take k).count m = v at hget hinc hv1
    have hget' : (intVs' (metK (L.map se) L.length i (ks.take k)))[m]? = some (.int .i64 v) := by unfold intVs'; rw [List.getElem?_map, hget]; rfl
    refine oj_indexAddr TT rfl rfl rfl rfl rfl rfl rfl rfl rfl ⟨by omega, by omega⟩ (oj_run TT rfl ?_)
    refine oj_ldA 0 (off := m) (c := .v (.int .i64 v)) TT rfl rfl rfl rfl rfl had rfl rfl rfl rfl hget' trivial (oj_run TT rfl ?_)
    refine oj_add rfl rfl rfl rfl rfl rfl ?_ (oj_run TT rfl ?_)
    · omega
    refine oj_indexAddr TT rfl rfl rfl rfl rfl rfl rfl rfl rfl ⟨by omega, by omega⟩ (oj_run TT rfl ?_)
    refine oj_stA 0 (off := m) (A' := [mtE gm L.length (metK (L.map se) L.length i (ks.take (k + 1)))]) TT rfl rfl rfl rfl had rfl rfl rfl rfl rfl (by show m < L.length * 1; omega) trivial rfl ?_ (oj_run TT rfl ?_)
    · show [_] = [_]
      rw [htake, ← hinc]
      unfold mtE intVs'
      rw [List.map_set]
      rfl
    (repeat (first | (refine cj_region ?_; refine oj_run TT rfl ?_) | refine oj_nil ?_ | refine nj_then ?_ | refine nj_block ?_ | (refine oj_add rfl rfl rfl rfl rfl rfl (by omega) ?_; refine oj_run TT rfl ?_)))
    refine nj_again (k + 1, z.en) ⟨hkl, hch⟩ (by dsimp only; omega) rfl (by (repeat (first | exact trivial | refine And.intro rfl ?_))) (by (repeat (first | exact trivial | refine And.intro rfl ?_))) rfl (by (repeat' (first | exact trivial | constructor))) (by (repeat' exact trivial))
  (repeat (first | refine cj_seq ?_ | (refine cj_region ?_; refine oj_run TT rfl ?_) | refine oj_then ?_ | refine cj_block ?_))
  refine cj_loop (fun (_ : Nat) => s) (fun i => [(5, .a .tt), (8, .a (.v (.slice (some ⟨gm, 0, none⟩) L.length L.length))), (13, .a (.v (.int .i64 (i : Int))))]) (fun _ => []) (fun _ => [mtE gm L.length (metK (L.map se) L.length L.length [])]) 0
    (fun i => i ≤ L.length) (fun i => L.length - i) 0 (Nat.zero_le _) rfl (by (repeat (first | exact trivial | refine And.intro rfl ?_))) (by (repeat (first | exact trivial | refine And.intro rfl ?_))) rfl (by (repeat' (first | exact trivial | constructor))) (by (repeat' exact trivial)) fun i hi => ?_
  (repeat (first | refine cj_seq ?_ | (refine cj_region ?_; refine oj_run TT rfl ?_) | refine oj_then ?_))
  refine cj_if rfl (fun h => ?_) (fun h => ?_)
  rotate_left
  · (repeat (first | refine cj_seq ?_ | (refine cj_region ?_; refine oj_run TT rfl ?_) | refine oj_then ?_ | refine cj_exit ?_ | refine cj_ret ?_ | refine nj_then ?_ | refine nj_then_exit ?_ | refine nj_block_out ?_))
    refine nj_ret TT rfl fun β w' _ _ => ?_
    rfl
  have hil : i < L.length := by have := of_decide_eq_true h; omega
  (repeat (first | refine cj_seq ?_ | (refine cj_region ?_; refine oj_run TT rfl ?_) | refine cj_skip ?_ | refine cj_block ?_ | refine nj_then ?_))
  have had : some (SV.a (AT.v (.pointer (some (Addr.add ⟨gm, 0, none⟩ ((i : Int).toNat * 1)))))) = some (SV.a (AT.v (.pointer (some ⟨gm, i, none⟩)))) := by
    rw [Int.toNat_natCast, Nat.mul_one, add0]
  have hget := metK_get (L.map se) L.length L.length [] hil
  rw [hT2 i, List.count_nil, Nat.add_zero] at hget
  have hget' : (intVs' (metK (L.map se) L.length L.length []))[i]? = some (.int .i64 (ind 1 L.length i : Nat)) := by unfold intVs'; rw [List.getElem?_map, hget]; rfl
  refine oj_indexAddr TT rfl rfl rfl rfl rfl rfl rfl rfl rfl ⟨by omega, by omega⟩ (oj_run TT rfl ?_)
  refine oj_ldA 0 (off := i) (c := .v (.int .i64 (ind 1 L.length i : Nat))) TT rfl rfl rfl rfl rfl had rfl rfl rfl rfl hget' trivial (oj_run TT rfl ?_)
  skip
  refine oj_mm rfl rfl rfl rfl rfl rfl rfl (oj_run TT rfl ?_)
  have hmin : (if true = true then (if (1 : Int) < i then (1 : Int) else i) else (if (1 : Int) > i then 1 else i)) = (ind 1 L.length i : Nat) := by
    rw [if_pos rfl]
    by_cases hi1 : 1 ≤ i
    · rw [ind_t ⟨hi1, hil⟩]
      split <;> omega
    · rw [ind_f (by omega), if_neg (by omega)]
      omega
  rw [hmin]
  (repeat refine oj_then ?_)
  refine cj_if rfl (fun h => absurd h (by simp)) (fun _ => ?_)
  (repeat (first | (refine cj_region ?_; refine oj_run TT rfl ?_) | refine oj_nil ?_ | refine cj_skip ?_ | refine nj_then ?_ | refine nj_block ?_ | (refine oj_add rfl rfl rfl rfl rfl rfl (by omega) ?_; refine oj_run TT rfl ?_)))
  refine nj_again (i + 1) hil (by omega) rfl (by (repeat (first | exact trivial | refine And.intro rfl ?_))) (by (repeat (first | exact trivial | refine And.intro rfl ?_))) rfl (by (repeat' (first | exact trivial | constructor))) (by (repeat' exact trivial))
end Go.Sy
namespace Go.Sy
open Go.Proofs

/-! ### slices.Index -/

def idxF (v : Nat) : List Nat → Nat → Int
  | [], _ => -1
  | m :: ms, k => if v = m then k else idxF v ms (k + 1)

set_option maxRecDepth 100000 in
set_option maxHeartbeats 1000000 in
theorem Index_c (σ : Snap) (ks : List Nat) (hL : ks.length ≤ 100000) (oo : Option Addr) (oc : Nat) (HK : SlAt σ oo ks.length oc 1 (kidRows ks)) (v : Nat) :
    PlainS Tryd.prog 79 [.a (.v (.slice oo ks.length oc)), .a (.v (.int .i64 v))] σ (fun x => x = .int .i64 (idxF v ks 0)) := by
  refine enter_p Tryd.func79 rfl rfl (by (repeat' (first | exact trivial | constructor))) fun w => ?_
  (repeat (first | refine cj_seq ?_ | (refine cj_region ?_; refine oj_run TT rfl ?_) | refine oj_then ?_ | refine cj_block ?_))
  refine cj_loop (fun (_ : Nat) => σ) (fun k => [(0, .a (.v (.slice oo ks.length oc))), (1, .a (.v (.int .i64 v))), (7, .a (.v (.int .i64 ks.length))), (8, .a (.v (.int .i64 k)))]) (fun _ => []) (fun _ => []) 0
    (fun k => k ≤ ks.length ∧ idxF v (ks.drop k) k = idxF v ks 0) (fun k => ks.length - k) 0 ⟨Nat.zero_le _, rfl⟩ rfl (by (repeat (first | exact trivial | refine And.intro rfl ?_))) (by (repeat (first | exact trivial | refine And.intro rfl ?_))) rfl (by (repeat' (first | exact trivial | constructor))) (by (repeat' exact trivial)) fun k ⟨hk, hp⟩ => ?_
  (repeat (first | refine cj_seq ?_ | (refine cj_region ?_; refine oj_run TT rfl ?_) | refine oj_then ?_))
  refine cj_if rfl (fun h => ?_) (fun h => ?_)
  rotate_left
  · have hk0 : k = ks.length := by have := of_decide_eq_false h; omega
    subst hk0
    rw [List.drop_length] at hp
    (repeat (first | refine cj_seq ?_ | (refine cj_region ?_; refine oj_run TT rfl ?_) | refine oj_then ?_ | refine cj_exit ?_ | refine cj_ret ?_ | refine nj_then ?_ | refine nj_then_exit ?_ | refine nj_block_out ?_))
    refine nj_ret TT rfl fun β w' _ _ => ?_
    rw [← hp]
    rfl
  have hkl : k < ks.length := by have := of_decide_eq_true h; omega
  have hkr : (kidRows ks)[k]? = some [.v (.int .i64 (ks[k] : Nat))] := by unfold kidRows; rw [List.getElem?_map, List.getElem?_eq_getElem hkl]; rfl
  rw [List.drop_eq_getElem_cons hkl, idxF] at hp
  generalize ks[k] = m at *
  (repeat (first | refine cj_seq ?_ | (refine cj_region ?_; refine oj_run TT rfl ?_) | refine oj_then ?_ | refine cj_skip ?_ | refine cj_block ?_ | refine nj_then ?_))
  refine oj_idx TT rfl rfl rfl rfl rfl rfl rfl rfl rfl HK (by omega) hkr (oj_run TT rfl ?_)
  (repeat refine oj_then ?_)
  refine cj_if rfl (fun h => ?_) (fun h => ?_)
  · have h : (v : Int) = m := of_decide_eq_true h
    rw [if_pos (by omega)] at hp
    (repeat (first | refine cj_seq ?_ | (refine cj_region ?_; refine oj_run TT rfl ?_) | refine oj_then ?_ | refine cj_ret ?_ | refine nj_then_ret ?_ | refine nj_block_ret ?_))
    refine nj_ret TT rfl fun β w' _ _ => ?_
    rw [← hp]
    rfl
  · have h : ¬ (v : Int) = m := of_decide_eq_false h
    rw [if_neg (by omega)] at hp
    (repeat (first | (refine cj_region ?_; refine oj_run TT rfl ?_) | refine oj_nil ?_ | refine cj_skip ?_ | refine nj_then ?_ | refine nj_block ?_ | (refine oj_add rfl rfl rfl rfl rfl rfl (by omega) ?_; refine oj_run TT rfl ?_)))
    refine nj_again (k + 1) ⟨hkl, hp⟩ (by omega) rfl (by (repeat (first | exact trivial | refine And.intro rfl ?_))) (by (repeat (first | exact trivial | refine And.intro rfl ?_))) rfl (by (repeat' (first | exact trivial | constructor))) (by (repeat' exact trivial))

/-! ### SameSteps -/

structure GStep where
  key : ByteArray
  at_ : Int
  named : Bool
deriving DecidableEq

def stepCells (s : GStep) : List AT := [.v (.string s.key), .v (.int .i64 s.at_), .b s.named]
def stepRows (l : List GStep) : List (List AT) := l.map stepCells
theorem stepRows_get {l : List GStep} {i : Nat} {s : GStep} (h : l[i]? = some s) : (stepRows l)[i]? = some (stepCells s) := by unfold stepRows; rw [List.getElem?_map, h]; rfl

def stepEq (x y : GStep) : Bool := !(x.named != y.named) && !(x.named && !decide (x.key = y.key)) && !(!x.named && !decide (x.at_ = y.at_))
def sameG : List GStep → List GStep → Bool
  | [], [] => true
  | x :: a, y :: b => stepEq x y && sameG a b
  | _, _ => false

theorem sameG_len : ∀ {a b : List GStep}, a.length ≠ b.length → sameG a b = false
  | [], [], h => absurd rfl h
  | _ :: a, _ :: b, h => by rw [sameG, sameG_len (a := a) (b := b) (by simpa using h), Bool.and_false]
  | [], _ :: _, _ => rfl
  | _ :: _, [], _ => rfl

set_option maxRecDepth 100000 in
set_option maxHeartbeats 1000000 in
theorem SameSteps_c (σ : Snap) (a b : List GStep) (ha : a.length ≤ 100000) (_ : b.length ≤ 100000) (ao bo : Option Addr) (ac bc : Nat) (HA : SlAt σ ao a.length ac 3 (stepRows a)) (HB : SlAt σ bo b.length bc 3 (stepRows b)) :
    PlainS Tryd.prog 28 [.a (.v (.slice ao a.length ac)), .a (.v (.slice bo b.length bc))] σ (fun x => x = .bool (sameG a b)) := by
  refine enter_p Tryd.func28 rfl rfl (by (repeat' (first | exact trivial | constructor))) fun w => ?_
  (repeat (first | refine cj_seq ?_ | (refine cj_region ?_; refine oj_run TT rfl ?_) | refine oj_then ?_))
  refine cj_if rfl (fun h => ?_) (fun h => ?_)
  · have h : ¬ (a.length : Int) = b.length := by simpa using h
    rw [sameG_len (by omega)]
    (repeat (first | refine cj_seq ?_ | (refine cj_region ?_; refine oj_run TT rfl ?_) | refine oj_then ?_ | refine cj_ret ?_ | refine nj_then_ret ?_))
    refine nj_ret TT rfl fun β w' _ _ => ?_
    rfl
  have hlen : a.length = b.length := by
    have h : (a.length : Int) = b.length := by simpa using h
    omega
  (repeat (first | refine cj_seq ?_ | (refine cj_region ?_; refine oj_run TT rfl ?_) | refine oj_then ?_ | refine cj_skip ?_ | refine cj_block ?_ | refine nj_then ?_))
  refine cj_loop (fun (_ : Nat) => σ) (fun k => [(0, .a (.v (.slice ao a.length ac))), (1, .a (.v (.slice bo b.length bc))), (5, .a (.v (.int .i64 k)))]) (fun _ => []) (fun _ => []) 0
    (fun k => k ≤ a.length ∧ sameG (a.drop k) (b.drop k) = sameG a b) (fun k => a.length - k) 0 ⟨Nat.zero_le _, rfl⟩ rfl (by (repeat (first | exact trivial | refine And.intro rfl ?_))) (by (repeat (first | exact trivial | refine And.intro rfl ?_))) rfl (by (repeat' (first | exact trivial | constructor))) (by (repeat' exact trivial)) fun k ⟨hk, hp⟩ => ?_
  (repeat (first | refine cj_seq ?_ | (refine cj_region ?_; refine oj_run TT rfl ?_) | refine oj_then ?_))
  refine cj_if rfl (fun h => ?_) (fun h => ?_)
  rotate_left
  · have hk0 : k = a.length := by have := of_decide_eq_false h; omega
    subst hk0
    rw [List.drop_length, hlen, List.drop_length] at hp
    (repeat (first | refine cj_seq ?_ | (refine cj_region ?_; refine oj_run TT rfl ?_) | refine oj_then ?_ | refine cj_exit ?_ | refine cj_ret ?_ | refine nj_then ?_ | refine nj_then_exit ?_ | refine nj_block_out ?_))
    refine nj_ret TT rfl fun β w' _ _ => ?_
    rw [← hp]
    rfl
  have hkl : k < a.length := by have := of_decide_eq_true h; omega
  have hkl' : k < b.length := by omega
  have hra := stepRows_get (List.getElem?_eq_getElem hkl)
  have hrb := stepRows_get (List.getElem?_eq_getElem hkl')
  rw [List.drop_eq_getElem_cons hkl, List.drop_eq_getElem_cons hkl', sameG] at hp
  generalize a[k] = x at *
  generalize b[k] = y at *
  (repeat (first | refine cj_seq ?_ | refine cj_skip ?_ | refine cj_block ?_ | refine nj_then ?_))
  refine cj_draw [(0,.pure),(1,.pure),(2,.pure),(3,.pure),(4,.quiet),(5,.pure),(6,.pure),(7,.pure),(8,.pure),(9,.quiet),(10,.pure),(11,.pure),(12,.pure),(13,.pure),(14,.pure),(15,.pure),(16,.quiet),(17,.pure),(18,.pure),(19,.pure),(20,.pure),(21,.pure),(22,.quiet),(23,.pure),(24,.pure),(25,.pure),(26,.pure),(27,.quiet),(28,.pure),(29,.pure),(30,.pure),(31,.pure),(32,.pure),(33,.pure),(34,.pure),(35,.pure),(36,.quiet),(37,.pure),(38,.pure),(39,.pure),(40,.pure),(41,.pure),(42,.pure),(43,.quiet),(44,.pure),(45,.pure),(46,.pure),(47,.pure),(48,.quiet),(49,.pure),(50,.pure),(51,.pure)] mixed (by kernel_rfl) (oj_run TT rfl ?_)
  refine oj_idx TT rfl rfl rfl rfl rfl rfl rfl rfl rfl HA (by omega) hra (oj_run TT rfl ?_)
  refine oj_idx TT rfl rfl rfl rfl rfl rfl rfl rfl rfl HB (by omega) hrb (oj_run TT rfl ?_)
  skip
  refine oj_split 28 rfl (fun h => ?_) (fun h1 => ?_)
  · have h : (x.named != y.named) = true := h
    refine oj_run TT rfl ?_
    (repeat (first | refine cj_seq ?_ | (refine cj_region ?_; refine oj_run TT rfl ?_) | refine oj_then ?_ | refine cj_if_t rfl ?_ | refine cj_ret ?_ | refine nj_then_ret ?_ | refine nj_block_ret ?_))
    refine nj_ret TT rfl fun β w' _ _ => ?_
    rw [← hp]
    unfold stepEq
    rw [h]
    rfl
  have h1 : (x.named != y.named) = false := h1
  refine oj_run TT rfl ?_
  refine oj_idx TT rfl rfl rfl rfl rfl rfl rfl rfl rfl HA (by omega) hra (oj_run TT rfl ?_)
  skip
  refine oj_split 34 rfl (fun h2 => ?_) (fun h2 => ?_)
  · have h2 : x.named = true := h2
    refine oj_run TT rfl ?_
    refine oj_idx TT rfl rfl rfl rfl rfl rfl rfl rfl rfl HA (by omega) hra (oj_run TT rfl ?_)
    refine oj_idx TT rfl rfl rfl rfl rfl rfl rfl rfl rfl HB (by omega) hrb (oj_run TT rfl ?_)
    skip
    refine oj_split 48 rfl (fun h3 => ?_) (fun h3 => ?_)
    · have h3 : (!decide (x.key = y.key)) = true := h3
      refine oj_run TT rfl ?_
      (repeat (first | refine cj_seq ?_ | (refine cj_region ?_; refine oj_run TT rfl ?_) | refine oj_then ?_ | refine cj_if_t rfl ?_ | refine cj_ret ?_ | refine nj_then_ret ?_ | refine nj_block_ret ?_))
      refine nj_ret TT rfl fun β w' _ _ => ?_
      rw [← hp]
      unfold stepEq
      rw [h1, h2, h3]
      rfl
    have h3 : (!decide (x.key = y.key)) = false := h3
    have he : stepEq x y = true := by unfold stepEq; rw [h1, h2, h3]; rfl
    rw [he, Bool.true_and] at hp
    refine oj_run TT rfl ?_
    refine oj_idx TT rfl rfl rfl rfl rfl rfl rfl rfl rfl HA (by omega) hra (oj_run TT rfl ?_)
    skip
    refine oj_split 55 rfl (fun h4 => absurd (show (!x.named) = true from h4) (by rw [h2]; decide)) (fun _ => ?_)
    refine oj_run TT rfl ?_
    (repeat (first | (refine cj_region ?_; refine oj_run TT rfl ?_) | refine oj_then ?_ | refine oj_nil ?_ | refine cj_if_f rfl ?_ | refine cj_skip ?_ | refine nj_then ?_ | refine nj_block ?_ | (refine oj_add rfl rfl rfl rfl rfl rfl (by omega) ?_; refine oj_run TT rfl ?_)))
    refine nj_again (k + 1) ⟨hkl, hp⟩ (by omega) rfl (by (repeat (first | exact trivial | refine And.intro rfl ?_))) (by (repeat (first | exact trivial | refine And.intro rfl ?_))) rfl (by (repeat' (first | exact trivial | constructor))) (by (repeat' exact trivial))
  · have h2 : x.named = false := h2
    refine oj_run TT rfl ?_
    skip
    refine oj_idx TT rfl rfl rfl rfl rfl rfl rfl rfl rfl HA (by omega) hra (oj_run TT rfl ?_)
    skip
    refine oj_split 55 rfl (fun _ => ?_) (fun h4 => absurd (show (!x.named) = false from h4) (by rw [h2]; decide))
    refine oj_run TT rfl ?_
    refine oj_idx TT rfl rfl rfl rfl rfl rfl rfl rfl rfl HA (by omega) hra (oj_run TT rfl ?_)
    refine oj_idx TT rfl rfl rfl rfl rfl rfl rfl rfl rfl HB (by omega) hrb (oj_run TT rfl ?_)
    (repeat refine oj_then ?_)
    refine cj_if rfl (fun h3 => ?_) (fun h3 => ?_)
    · have h3 : (!decide (x.at_ = y.at_)) = true := h3
      (repeat (first | refine cj_seq ?_ | (refine cj_region ?_; refine oj_run TT rfl ?_) | refine oj_then ?_ | refine cj_ret ?_ | refine nj_then_ret ?_ | refine nj_block_ret ?_))
      refine nj_ret TT rfl fun β w' _ _ => ?_
      rw [← hp]
      unfold stepEq
      rw [h1, h2, h3]
      rfl
    · have h3 : (!decide (x.at_ = y.at_)) = false := h3
      have he : stepEq x y = true := by unfold stepEq; rw [h1, h2, h3]; rfl
      rw [he, Bool.true_and] at hp
      (repeat (first | (refine cj_region ?_; refine oj_run TT rfl ?_) | refine oj_nil ?_ | refine cj_skip ?_ | refine nj_then ?_ | refine nj_block ?_ | (refine oj_add rfl rfl rfl rfl rfl rfl (by omega) ?_; refine oj_run TT rfl ?_)))
      refine nj_again (k + 1) ⟨hkl, hp⟩ (by omega) rfl (by (repeat (first | exact trivial | refine And.intro rfl ?_))) (by (repeat (first | exact trivial | refine And.intro rfl ?_))) rfl (by (repeat' (first | exact trivial | constructor))) (by (repeat' exact trivial))
end Go.Sy
/- A store of several cells into an own array. No program in sight. -/
namespace Go.Sy

theorem take_splice {α : Type} (l news : List α) (off N : Nat) (h : off + news.length ≤ N) (hl : N ≤ l.length) :
    (l.take off ++ news ++ l.drop (off + news.length)).take N = (l.take N).take off ++ news ++ (l.take N).drop (off + news.length) := by
  have h1 : (l.take off ++ news).length = off + news.length := by rw [List.length_append, List.length_take]; omega
  rw [List.take_append, h1, List.take_of_length_le (by omega), List.take_take, Nat.min_eq_left (by omega), List.drop_take]

section
variable {cf : Cf} {Q : Exit → Act → World → Prop} {σ : Snap} {env : Env} {hp : HP} {A : List AE} {nh : Nat} {it : Item} {rest : List Item}

theorem oj_stAs (i : Nat) {E : AE} {A' : List AE} {t : Nat} {x y : Operand} {T : List (Nat × TI)} (hT : TTok cf.P T) {ti : TI} {g off : Nat} {cs : List AT} (hop : it.o.op = .store t x y) (hd : it.o.dst = none) (hg : guardVal it.guard env = some true)
    (htag : canSink it.tag = true) (hx : evalO env x = some (.a (.v (.pointer (some ⟨g, off, none⟩))))) (hy : evalO env y = some (.agg cs)) (hi : A[i]? = some E) (hE : E.ao = some ⟨g, 0, none⟩) (ht : tget T t = some ti) (hsz : ti.size = cs.length)
    (hoff : off + cs.length ≤ E.n * E.sz) (hc : ∀ c ∈ cs, c.lt 0) (hone : cs.all AT.one = true)
    (hA : A.set i ⟨E.ao, E.n, E.cap, E.e, E.sz, E.xs.take off ++ cs.map AT.val ++ E.xs.drop (off + cs.length)⟩ = A') (k : OJ cf rest Q σ env hp A' nh) : OJ cf (it :: rest) Q σ env hp A nh := by
  subst hA
  refine ⟨fun hb a β ha hex => ?_⟩
  have key : ∀ w, StW cf σ hp A β w → ∀ Q', it.o.wq cf.P a w (fun a' w' => ∃ E' S' : World → Prop, S' w' ∧ (∀ x, S' x → E' x) ∧ RunT cf.P Q rest E' S' a') Q' := by
    intro w hw Q'
    obtain ⟨inf, d', z, hs⟩ := tiOf_spec (hT _ _ ht)
    have hx' : a.eval x = .pointer (some ⟨g, off, none⟩) := evalO_eval ha hx
    have hmap : cs.map (AT.den β) = cs.map AT.val := List.map_congr_left fun c h => AT.den_val (hc c h) β
    have hy' : a.eval y = .agg (cs.map AT.val).toArray := by
      rw [← hmap]
      exact evalO_eval ha hy
    have hE0 := hw.arr i E hi
    rcases hE0.2 with h1 | ⟨g', cur, h3, h4, h5, h6, h7, h8, h9, h10⟩
    · rw [h1.1] at hE; cases hE
    · rw [hE] at h3
      injection h3 with h3
      simp only [Addr.mk.injEq, and_true] at h3
      subst h3
      have hnc : E.n * E.sz ≤ E.cap * E.sz := Nat.mul_le_mul_right _ h5
      have hll : cur.toList.length = E.cap * E.sz := by rw [Array.length_toList, h7]
      have hst := run_storeCells_at cf.P g off E.e (cs.map AT.val) 0 cur w h4 (by simp only [List.length_map]; omega) (fun v hv => by
        obtain ⟨c, hc', rfl⟩ := List.mem_map.1 hv
        exact AT.one_den β0 (List.all_eq_true.1 hone c hc'))
      simp only [Nat.add_zero, List.length_map] at hst
      have hrun : (execOp a.eval it.o).run cf.P w = .ok .skip (w.setRow g (cur.toList.take off ++ cs.map AT.val ++ cur.toList.drop (off + cs.length)).toArray) := by
        have hsz' : inf.size = cs.length := by rw [hs.size, hsz]
        simp only [execOp, hop, Instr.storeAt, hx', hy', Instr.sureAddr, storeVar, Sem.run_bind, Sem.run_pure, Result.andThen_ok, Value.cells, run_size hs.info, hsz', List.size_toArray, List.length_map, ne_eq, not_true, if_false, Sem.run_ite, hst]
      unfold Oper.wq
      rw [hrun]
      have htk := take_splice cur.toList (cs.map AT.val) off (E.n * E.sz) (by simp only [List.length_map]; omega) (by omega)
      simp only [List.length_map] at htk
      have hxl : E.xs.length = E.n * E.sz := hE0.1
      have hw' := hw.setArr (E' := ⟨E.ao, E.n, E.cap, E.e, E.sz, E.xs.take off ++ cs.map AT.val ++ E.xs.drop (off + cs.length)⟩) (cur' := (cur.toList.take off ++ cs.map AT.val ++ cur.toList.drop (off + cs.length)).toArray) hi hE h4 rfl rfl rfl rfl h5
        (by simp only [List.length_append, List.length_take, List.length_drop, List.length_map]; omega) (by simp only [List.size_toArray, List.length_append, List.length_take, List.length_drop, List.length_map]; omega) (by rw [htk, h8])
      refine ⟨_, _, hw', fun _ h => h, ?_⟩
      rw [hd]
      exact k.run hb a β ha ⟨_, hw'⟩
  simp only [RunT]
  rw [if_pos (guardVal_ok ha hg)]
  cases htag' : it.tag with
  | pure => rw [htag'] at htag; cases htag
  | quiet => rw [htag'] at htag; cases htag
  | keep => rw [htag'] at htag; cases htag
  | sink => exact fun w hw => key w hw _
  | free => exact fun w hw => key w hw _
end
end Go.Sy
namespace Go.Sy
open Go.Proofs

/-! ### slices.Reverse -/

def stXs (l : List GStep) : List Value := (stepRows l).flatten.map AT.val
def spE (ao : Option Addr) (n cap : Nat) (l : List GStep) : AE := ⟨ao, n, cap, 129, 3, stXs l⟩

/-- What is half turned. -/
def revAt (l m : List GStep) (k : Nat) : Prop := m.length = l.length ∧ ∀ q, q < l.length → m[q]? = if q < k ∨ l.length - k ≤ q then l[l.length - 1 - q]? else l[q]?

theorem revAt_zero (l : List GStep) : revAt l l 0 := ⟨rfl, fun q hq => by rw [if_neg (by omega)]⟩
theorem revAt_end {l m : List GStep} {k : Nat} (h : revAt l m k) (hk : l.length ≤ 2 * k + 1) : m = l.reverse := by
  apply List.ext_getElem?
  intro q
  by_cases hq : q < l.length
  · rw [h.2 q hq, List.getElem?_reverse hq]
    split
    · rfl
    · rw [show l.length - 1 - q = q by omega]
  · rw [List.getElem?_eq_none (by rw [h.1]; omega), List.getElem?_eq_none (by rw [List.length_reverse]; omega)]
theorem revAt_step {l m : List GStep} {k : Nat} (h : revAt l m k) (hk : 2 * k + 1 < l.length) {x y : GStep} (hx : m[k]? = some x) (hy : m[l.length - 1 - k]? = some y) :
    revAt l ((m.set k y).set (l.length - 1 - k) x) (k + 1) := by
  refine ⟨by simp [h.1], fun q hq => ?_⟩
  have h1 := h.2 k (by omega)
  have h2 := h.2 (l.length - 1 - k) (by omega)
  rw [if_neg (by omega)] at h1 h2
  rw [List.getElem?_set, List.getElem?_set, List.length_set, h.1]
  by_cases e1 : l.length - 1 - k = q
  · rw [if_pos e1, if_pos (show l.length - 1 - k < l.length by omega), if_pos (by omega), ← hx, h1, show l.length - 1 - q = k by omega]
  · rw [if_neg e1]
    by_cases e2 : k = q
    · rw [if_pos e2, if_pos (show k < l.length by omega), if_pos (by omega), ← hy, h2, e2]
    · rw [if_neg e2, h.2 q hq]
      by_cases e3 : q < k ∨ l.length - k ≤ q
      · rw [if_pos e3, if_pos (by omega)]
      · rw [if_neg e3, if_neg (by omega)]

theorem stXs_cons (x : GStep) (l : List GStep) : stXs (x :: l) = (stepCells x).map AT.val ++ stXs l := by simp [stXs, stepRows]
theorem stXs_len : ∀ l : List GStep, (stXs l).length = l.length * 3
  | [] => rfl
  | x :: l => by rw [stXs_cons, List.length_append, stXs_len l, List.length_cons]; simp [stepCells]; omega
theorem stXs_get : ∀ {l : List GStep} {i : Nat} {x : GStep}, l[i]? = some x → ∀ (j : Nat) c, (stepCells x)[j]? = some c → (stXs l)[i * 3 + j]? = some c.val
  | y :: l, 0, x, h, j, c, hc => by
    simp only [List.getElem?_cons_zero, Option.some.injEq] at h
    subst h
    have hj : j < 3 := by have := (List.getElem?_eq_some_iff.1 hc).1; simpa [stepCells] using this
    rw [stXs_cons, Nat.zero_mul, Nat.zero_add, List.getElem?_append_left (by simpa [stepCells] using hj), List.getElem?_map, hc]
    rfl
  | y :: l, i + 1, x, h, j, c, hc => by
    rw [stXs_cons, List.getElem?_append_right (by simp [stepCells]; omega)]
    have : (i + 1) * 3 + j - (List.map AT.val (stepCells y)).length = i * 3 + j := by simp [stepCells]; omega
    rw [this]
    exact stXs_get (by simpa using h) j c hc
theorem stXs_set : ∀ {l : List GStep} {i : Nat} (x : GStep), i < l.length → (stXs l).take (i * 3) ++ (stepCells x).map AT.val ++ (stXs l).drop (i * 3 + (stepCells x).length) = stXs (l.set i x)
  | y :: l, 0, x, h => by
    rw [List.set_cons_zero, stXs_cons, stXs_cons, Nat.zero_mul, Nat.zero_add, List.take_zero, List.nil_append]
    congr 1
  | y :: l, i + 1, x, h => by
    have ih := stXs_set (l := l) (i := i) x (by simpa using h)
    rw [List.set_cons_succ, stXs_cons, stXs_cons, ← ih]
    have e1 : (i + 1) * 3 = (List.map AT.val (stepCells y)).length + i * 3 := by simp [stepCells]; omega
    rw [e1, Nat.add_assoc, List.take_length_add_append, List.drop_length_add_append]
    simp only [List.append_assoc]

set_option maxRecDepth 100000 in
set_option maxHeartbeats 1000000 in
theorem Reverse_c (σ : Snap) (l : List GStep) (hL : l.length ≤ 100000) (ao : Option Addr) (cap : Nat) :
    FnS Tryd.prog 80 [.a (.v (.slice ao l.length cap))] σ [spE ao l.length cap l] (fun v _ A' => v = .tuple #[] ∧ A' = [spE ao l.length cap l.reverse]) := by
  refine enter_f Tryd.func80 rfl rfl (by (repeat' (first | exact trivial | constructor))) fun w => ?_
  (repeat (first | refine cj_seq ?_ | (refine cj_region ?_; refine oj_run TT rfl ?_) | refine oj_then ?_ | refine cj_block ?_ | (refine oj_minus rfl rfl rfl rfl rfl rfl (by omega) ?_; refine oj_run TT rfl ?_)))
  refine cj_loop2 (fun _ _ => σ) (fun (k : Nat) (_ : List GStep) => [(0, .a (.v (.slice ao l.length cap))), (2, .a (.v (.int .i64 (k : Int)))), (3, .a (.v (.int .i64 ((l.length : Int) - 1 - k))))]) (fun _ _ => []) (fun _ m => [spE ao l.length cap m]) 0
    (fun k m => revAt l m k ∧ 2 * k ≤ l.length + 1) (fun k _ => l.length + 1 - k) 0 l ⟨revAt_zero l, by omega⟩ rfl ?_ (by (repeat (first | exact trivial | refine And.intro rfl ?_))) rfl (by (repeat' (first | exact trivial | constructor))) (by (repeat' exact trivial)) fun k m ⟨hm, hk⟩ => ?_
  · refine ⟨rfl, rfl, ?_, trivial⟩
    have e : (l.length : Int) - 1 - ((0 : Nat) : Int) = (l.length : Int) - 1 := by omega
    rw [e]
    rfl
  (repeat (first | refine cj_seq ?_ | (refine cj_region ?_; refine oj_run TT rfl ?_) | refine oj_then ?_))
  refine cj_if rfl (fun h => ?_) (fun h => ?_)
  rotate_left
  · have h := of_decide_eq_false h
    rw [revAt_end hm (by omega)]
    (repeat (first | refine cj_exit ?_ | refine nj_then_exit ?_ | refine nj_block_out ?_))
    refine nj_fend TT rfl fun β w' _ _ => ?_
    exact ⟨rfl, rfl⟩
  have h := of_decide_eq_true h
  have hkl : 2 * k + 1 < l.length := by omega
  have hml := hm.1
  have hgk : m[k]? = some m[k] := List.getElem?_eq_getElem (by omega)
  have hgj : m[l.length - 1 - k]? = some (m[l.length - 1 - k]'(by omega)) := List.getElem?_eq_getElem (by omega)
  generalize m[k] = x at *
  generalize m[l.length - 1 - k]'(by omega) = y at *
  have hstep := revAt_step hm hkl hgk hgj
  have ej : (l.length : Int) - 1 - k = (l.length - 1 - k : Nat) := by omega
  rw [ej]
  refine cj_arrAt 0 (E := spE ao l.length cap m) rfl (show 0 < l.length by omega) fun gb hgb => ?_
  have hgb : ao = some ⟨gb, 0, none⟩ := hgb
  subst hgb
  (repeat (first | refine cj_seq ?_ | refine cj_skip ?_ | refine cj_block ?_ | refine nj_then ?_))
  refine cj_draw [(0,.pure),(1,.pure),(2,.pure),(3,.pure),(4,.pure),(5,.pure),(6,.pure),(7,.quiet),(8,.pure),(9,.pure),(10,.pure),(11,.quiet),(12,.pure),(13,.sink),(14,.pure),(15,.sink)] mixed (by kernel_rfl) (oj_run TT rfl ?_)
  generalize hj : l.length - 1 - k = j at *
  have had : ∀ q : Nat, some (SV.a (AT.v (.pointer (some (Addr.add ⟨gb, 0, none⟩ ((q : Int).toNat * 3)))))) = some (SV.a (AT.v (.pointer (some ⟨gb, q * 3, none⟩)))) := fun q => by
    rw [Int.toNat_natCast, add0]
  have hlt : ∀ z : GStep, ∀ c ∈ stepCells z, c.lt 0 := fun z c hc => by simp [stepCells] at hc; rcases hc with rfl | rfl | rfl <;> trivial
  refine oj_indexAddr TT rfl rfl rfl rfl rfl rfl rfl rfl rfl ⟨by omega, by omega⟩ (oj_run TT rfl ?_)
  refine oj_ldAs 0 (off := j * 3) TT (stepCells y) rfl rfl rfl rfl rfl (had j) rfl rfl rfl rfl rfl (fun q c hc => stXs_get hgj q c hc) (hlt y) (oj_run TT rfl ?_)
  refine oj_indexAddr TT rfl rfl rfl rfl rfl rfl rfl rfl rfl ⟨by omega, by omega⟩ (oj_run TT rfl ?_)
  refine oj_ldAs 0 (off := k * 3) TT (stepCells x) rfl rfl rfl rfl rfl (had k) rfl rfl rfl rfl rfl (fun q c hc => stXs_get hgk q c hc) (hlt x) (oj_run TT rfl ?_)
  refine oj_indexAddr TT rfl rfl rfl rfl rfl rfl rfl rfl rfl ⟨by omega, by omega⟩ (oj_run TT rfl ?_)
  refine oj_stAs 0 (off := k * 3) (cs := stepCells y) (A' := [spE (some ⟨gb, 0, none⟩) l.length cap (m.set k y)]) TT rfl rfl rfl rfl (had k) rfl rfl rfl rfl rfl (by show k * 3 + 3 ≤ l.length * 3; omega) (hlt y) rfl ?_ (oj_run TT rfl ?_)
  · show [_] = [_]
    unfold spE
    rw [← stXs_set y (by omega)]
  refine oj_indexAddr TT rfl rfl rfl rfl rfl rfl rfl rfl rfl ⟨by omega, by omega⟩ (oj_run TT rfl ?_)
  refine oj_stAs 0 (off := j * 3) (cs := stepCells x) (A' := [spE (some ⟨gb, 0, none⟩) l.length cap ((m.set k y).set j x)]) TT rfl rfl rfl rfl (had j) rfl rfl rfl rfl rfl (by show j * 3 + 3 ≤ l.length * 3; omega) (hlt x) rfl ?_ (oj_run TT rfl ?_)
  · show [_] = [_]
    unfold spE
    rw [← stXs_set x (by rw [List.length_set]; omega)]
  (repeat (first | (refine cj_region ?_; refine oj_run TT rfl ?_) | refine oj_nil ?_ | refine nj_then ?_ | refine nj_block ?_ | (refine oj_add rfl rfl rfl rfl rfl rfl (by omega) ?_; refine oj_run TT rfl ?_) | (refine oj_minus rfl rfl rfl rfl rfl rfl (by omega) ?_; refine oj_run TT rfl ?_)))
  refine nj_again (k + 1, (m.set k y).set j x) ⟨hstep, by dsimp only; omega⟩ (by dsimp only; omega) rfl ?_ (by (repeat (first | exact trivial | refine And.intro rfl ?_))) rfl (by (repeat' (first | exact trivial | constructor))) (by (repeat' exact trivial))
  refine ⟨rfl, rfl, ?_, trivial⟩
  have e : (l.length : Int) - 1 - ((k + 1 : Nat) : Int) = (j : Int) - 1 := by omega
  dsimp only
  rw [e]
  rfl
end Go.Sy
namespace Go.Sy
open Go.Proofs

/-! ### Place -/

theorem parentK_lt (L : List GRec) (st : Int) : ∀ k : Nat, -1 ≤ parentK L st k ∧ parentK L st k < k
  | 0 => by simp [parentK]
  | k + 1 => by
    have := parentK_lt L st k
    simp only [parentK]
    split <;> omega
theorem parentG_lt (L : List GRec) (i : Nat) : -1 ≤ parentG L i ∧ parentG L i < i := parentK_lt L _ i

/-- The step at record i, under p. -/
def stepG (L : List GRec) (i p : Nat) : GStep :=
  match L[i]? with
  | some r => ⟨r.name, if r.nm then 0 else idxF i (kidsG L p) 0, r.nm⟩
  | none => ⟨emptyS, 0, false⟩
/-- The steps from record i up. -/
def upF (L : List GRec) : Nat → Nat → List GStep
  | 0, _ => []
  | n + 1, i => if parentG L i < 0 then [] else stepG L i (parentG L i).toNat :: upF L n (parentG L i).toNat
theorem upF_len (L : List GRec) : ∀ n k, (upF L n k).length ≤ n
  | 0, _ => Nat.le_refl _
  | n + 1, k => by
    have := upF_len L n (parentG L k).toNat
    unfold upF
    split
    · simp
    · rw [List.length_cons]; omega
def placeG (L : List GRec) (i : Nat) : List GStep := (upF L (i + 1) i).reverse

structure PlS where
  i : Nat
  o : List GStep
  oo : Option Addr
  oc : Nat

theorem sp_sealed {σ : Snap} {oo : Option Addr} {oc : Nat} {o : List GStep} (h : ArrSealed σ (spE oo o.length oc o)) (hc : o.length ≤ oc) : SlAt σ oo o.length oc 3 (stepRows o) :=
  h.sl (E := spE oo o.length oc o) rfl (fun r hr => by
    obtain ⟨k, _, rfl⟩ := List.mem_map.1 hr
    exact ⟨rfl, fun c hc => by simp [stepCells] at hc; rcases hc with rfl | rfl | rfl <;> trivial⟩) (by simp [stepRows]) rfl hc

set_option maxRecDepth 100000 in
set_option maxHeartbeats 1000000 in
theorem Place_c (σ : Snap) (L : List GRec) (R : RecsOk L) (ao : Option Addr) (cap : Nat) (H : SlAt σ ao L.length cap 11 (recRows L)) (i : Nat) (hi : i < L.length) (hs : soundG L = true) (hL : L.length ≤ 100000) :
    PureS Tryd.prog 27 [.a (.v (.slice ao L.length cap)), .a (.v (.int .i64 i))] σ (fun v σ' => ∃ oo oc, v = .slice oo (placeG L i).length oc ∧ SlAt σ' oo (placeG L i).length oc 3 (stepRows (placeG L i))) := by
  have hat : atG L i = true := by
    unfold atG
    rw [hs]
    simp
    omega
  refine enter_s Tryd.func27 rfl rfl (by (repeat' (first | exact trivial | constructor))) fun w => ?_
  (repeat (first | refine cj_seq ?_ | (refine cj_region ?_; refine oj_run TT rfl ?_) | refine oj_then ?_))
  refine oj_callP rfl rfl rfl rfl rfl Tryd.call76 (by (repeat' (first | exact trivial | constructor))) (at_c σ L R ao cap H i) fun v hv => ⟨.a .tt, trivial, by rw [hv, hat]; rfl, ?_⟩
  refine oj_run TT rfl ?_
  (repeat (first | refine cj_seq ?_ | (refine cj_region ?_; refine oj_run TT rfl ?_) | refine oj_then ?_ | refine cj_if_f rfl ?_ | refine cj_skip ?_ | refine nj_then ?_))
  refine oj_nilarr 129 3 ?_
  refine oj_callP rfl rfl rfl rfl rfl Tryd.call78 (by (repeat' (first | exact trivial | constructor))) (parent_c σ L R.len ao cap H i hi) fun v hv => ⟨.a (.v (.int .i64 (parentG L i))), trivial, hv.symm, ?_⟩
  refine oj_run TT rfl ?_
  (repeat (first | refine oj_then ?_ | refine cj_block ?_))
  refine cj_cutB (fun (p : Snap × Option Addr × Nat) => p.1) (fun p => [(5, .a (.v (.slice p.2.1 (upF L (i + 1) i).length p.2.2)))]) (fun _ => []) (fun p => [spE p.2.1 (upF L (i + 1) i).length p.2.2 (upF L (i + 1) i)]) 0 (fun p => (upF L (i + 1) i).length ≤ p.2.2) ?_ (fun p hp => ?_)
  · refine cj_loop2 (fun (s : Snap) (_ : Nat × PlS) => s) (fun _ t => [(0, .a (.v (.slice ao L.length cap))), (1, .a (.v (.int .i64 (t.2.i : Int)))), (5, .a (.v (.slice t.2.oo t.2.o.length t.2.oc))), (6, .a (.v (.int .i64 (parentG L t.2.i))))]) (fun _ _ => [])
      (fun _ t => [spE t.2.oo t.2.o.length t.2.oc t.2.o]) 0 (fun s t => σ.le s ∧ t.2.i ≤ i ∧ t.2.i < t.1 ∧ t.2.o ++ upF L t.1 t.2.i = upF L (i + 1) i ∧ t.2.o.length ≤ t.2.oc ∧ t.2.o.length + t.2.i ≤ i) (fun _ t => t.2.i) σ (i + 1, ⟨i, [], none, 0⟩)
      ⟨Snap.le_refl _, Nat.le_refl _, Nat.lt_succ_self _, rfl, Nat.le_refl _, by simp⟩ rfl (by (repeat (first | exact trivial | refine And.intro rfl ?_))) (by (repeat (first | exact trivial | refine And.intro rfl ?_))) rfl (by (repeat' (first | exact trivial | constructor))) (by (repeat' exact trivial)) fun s ⟨n, k, o, oo, oc⟩ ⟨hs, hk, hn, hp, hoc, hok⟩ => ?_
    dsimp only at hk hn hp hoc hok ⊢
    obtain ⟨n, rfl⟩ : ∃ m, n = m + 1 := ⟨n - 1, by omega⟩
    have hpl := parentG_lt L k
    have hkl : k < L.length := by omega
    have hrow := recRows_get (List.getElem?_eq_getElem hkl)
    have H := H.mono hs
    rw [upF] at hp
    (repeat (first | refine cj_seq ?_ | (refine cj_region ?_; refine oj_run TT rfl ?_) | refine oj_then ?_))
    refine cj_if rfl (fun h => ?_) (fun h => ?_)
    rotate_left
    · have h := of_decide_eq_false h
      rw [if_pos (by omega), List.append_nil] at hp
      subst hp
      (repeat (first | refine cj_exit ?_ | refine nj_then_exit ?_ | refine nj_block_out ?_))
      refine nj_again (s, oo, oc) hoc Nat.zero_lt_one rfl (by (repeat (first | exact trivial | refine And.intro rfl ?_))) (by (repeat (first | exact trivial | refine And.intro rfl ?_))) rfl (by (repeat' (first | exact trivial | constructor))) (by (repeat' exact trivial))
    have h := of_decide_eq_true h
    rw [if_neg (by omega)] at hp
    obtain ⟨q, hq⟩ : ∃ q : Nat, parentG L k = q := ⟨(parentG L k).toNat, by omega⟩
    rw [hq] at hp ⊢
    rw [Int.toNat_natCast] at hp
    have hql : q < L.length := by omega
    have hst : stepG L k q = ⟨L[k].name, if L[k].nm then 0 else idxF k (kidsG L q) 0, L[k].nm⟩ := by unfold stepG; rw [List.getElem?_eq_getElem hkl]
    generalize L[k] = x at *
    have hklen : (kidsG L q).length ≤ L.length := by
      unfold kidsG
      exact Nat.le_trans (kidsF_len L _ L.length (q + 1)) (Nat.sub_le _ _)
    (repeat (first | refine cj_seq ?_ | refine cj_skip ?_ | refine cj_block ?_ | refine nj_then ?_))
    refine cj_draw [(0,.pure),(1,.pure),(2,.pure),(3,.pure),(4,.quiet),(5,.pure),(6,.pure),(7,.pure),(8,.pure),(9,.quiet),(10,.pure),(11,.keep),(12,.sink)] mixed (by kernel_rfl) (oj_run TT rfl ?_)
    refine oj_idx TT rfl rfl rfl rfl rfl rfl rfl rfl rfl H (by omega) hrow (oj_run TT rfl ?_)
    refine oj_idx TT rfl rfl rfl rfl rfl rfl rfl rfl rfl H (by omega) hrow (oj_run TT rfl ?_)
    (repeat (first | refine cj_seq ?_ | (refine cj_region ?_; refine oj_run TT rfl ?_) | refine oj_then ?_))
    refine cj_cutN (fun (s' : Snap) => s') (fun _ => [(0, .a (.v (.slice ao L.length cap))), (1, .a (.v (.int .i64 (k : Int)))), (5, .a (.v (.slice oo o.length oc))), (6, .a (.v (.int .i64 (q : Int)))), (7, .a (.p 2 0))])
      (fun _ => [(2, .loc 129, stepCells (stepG L k q))]) (fun _ => [spE oo o.length oc o]) 3 (fun s' => s.le s') ?_ (fun s' hs' => ?_)
    · refine cj_if rfl (fun h => ?_) (fun h => ?_)
      · have h : x.nm = false := by simpa using h
        (repeat (refine cj_region ?_; refine oj_run TT rfl ?_))
        refine oj_callS rfl rfl rfl rfl rfl Tryd.call77 ⟨trivial, trivial, trivial⟩ (kids_c s L hL ao cap H q hql) fun v σ1 hle ⟨oo', oc', hv, HK⟩ => ⟨.a (.v (.slice oo' (kidsG L q).length oc')), trivial, hv.symm, ?_⟩
        refine oj_run TT rfl ?_
        skip
        refine oj_callP rfl rfl rfl rfl rfl Tryd.call79 (by (repeat' (first | exact trivial | constructor))) (Index_c σ1 (kidsG L q) (by omega) oo' oc' HK k) fun v hv => ⟨.a (.v (.int .i64 (idxF k (kidsG L q) 0))), trivial, hv.symm, ?_⟩
        refine oj_run TT rfl ?_
        (repeat refine oj_nil ?_)
        refine nj_again σ1 hle Nat.zero_lt_one rfl (by (repeat (first | exact trivial | refine And.intro rfl ?_))) (by rw [hst, h]; (repeat (first | exact trivial | refine And.intro rfl ?_))) rfl (by (repeat' (first | exact trivial | exact Nat.le_of_ble_eq_true rfl | constructor))) (by (repeat' (first | exact trivial | exact Nat.le_of_ble_eq_true rfl | refine AllLt.of ?_ | constructor)))
      · have h : x.nm = true := by simpa using h
        (repeat refine cj_skip ?_)
        refine nj_again s (Snap.le_refl s) Nat.zero_lt_one rfl (by (repeat (first | exact trivial | refine And.intro rfl ?_))) (by rw [hst, h]; (repeat (first | exact trivial | refine And.intro rfl ?_))) rfl (by (repeat' (first | exact trivial | exact Nat.le_of_ble_eq_true rfl | constructor))) (by (repeat' (first | exact trivial | exact Nat.le_of_ble_eq_true rfl | refine AllLt.of ?_ | constructor)))
    have H := H.mono hs'
    generalize stepG L k q = z at *
    clear hst
    (repeat (refine cj_region ?_; refine oj_run TT rfl ?_))
    refine oj_append_lit TT 0 rfl rfl rfl rfl rfl rfl rfl rfl rfl rfl rfl rfl rfl rfl rfl rfl rfl rfl (by (repeat' (first | exact trivial | refine AllLt.of ?_ | constructor))) rfl (by omega) (by show (o.length + 1) * 32 ≤ _; omega) fun ao' cap' hcap' => oj_run TT rfl ?_
    (repeat (first | (refine cj_region ?_; refine oj_run TT rfl ?_) | refine oj_nil ?_ | refine nj_then ?_ | refine nj_block ?_))
    refine oj_callP rfl rfl rfl rfl rfl Tryd.call78 (by (repeat' (first | exact trivial | constructor))) (parent_c s' L R.len ao cap H q hql) fun v hv => ⟨.a (.v (.int .i64 (parentG L q))), trivial, hv.symm, ?_⟩
    refine oj_run TT rfl ?_
    (repeat refine oj_nil ?_)
    refine nj_again (s', n, ⟨q, o ++ [z], ao', cap'⟩) ⟨Snap.le_trans hs hs', by dsimp only; omega, by dsimp only; omega, by dsimp only; rw [List.append_assoc]; exact hp, by dsimp only; rw [List.length_append]; exact hcap', by dsimp only; rw [List.length_append, List.length_singleton]; omega⟩ (by dsimp only; omega) rfl ?_ (by (repeat (first | exact trivial | refine And.intro rfl ?_))) ?_ (by (repeat' (first | exact trivial | constructor))) (by (repeat' exact trivial))
    · refine ⟨rfl, rfl, ?_, rfl, trivial⟩
      dsimp only
      rw [List.length_append]
      rfl
    · dsimp only
      rw [List.length_append]
      show [_] = [_]
      unfold spE stXs stepRows
      rw [List.map_append, List.flatten_append, List.map_append]
      rfl
  (repeat (first | refine cj_seq ?_ | (refine cj_region ?_; refine oj_run TT rfl ?_)))
  refine oj_callF [0] (A0 := [spE p.2.1 (upF L (i + 1) i).length p.2.2 (upF L (i + 1) i)]) (Ar := []) rfl rfl rfl rfl rfl rfl rfl Tryd.call80 (by (repeat' (first | exact trivial | constructor))) (Reverse_c p.1 (upF L (i + 1) i) (Nat.le_trans (upF_len L (i + 1) i) (by omega)) p.2.1 p.2.2) fun v σ2 A2 hle2 ⟨hv, hA⟩ => ⟨.tup [], (by (repeat' (first | exact trivial | refine SV.lt_tup ?_))), hv.symm, ?_⟩
  subst hA
  refine oj_run TT rfl ?_
  (repeat (first | refine cj_seq ?_ | (refine cj_region ?_; refine oj_run TT rfl ?_) | refine oj_then ?_ | refine cj_ret ?_))
  refine nj_seal 0 rfl rfl fun σ' hle' hS => ?_
  refine nj_ret TT rfl fun β w' _ _ => ?_
  have hl : (placeG L i).length = (upF L (i + 1) i).length := List.length_reverse
  rw [hl]
  refine ⟨p.2.1, p.2.2, rfl, ?_⟩
  have hS : ArrSealed σ' (spE p.2.1 (placeG L i).length p.2.2 (placeG L i)) := by rw [hl]; exact hS
  rw [← hl]
  exact sp_sealed hS (by rw [hl]; exact hp)
end Go.Sy
/- Plain laws on the places of a value's records. No program in sight. -/
namespace Go.Sy

/-! ### Keys -/

mutual
/-- No two members of one key, at any depth. -/
def keysOk : GVal → Prop
  | .mk _ _ _ _ l ks vs => twiceG ks = false ∧ keysOks l ∧ keysOks vs
def keysOks : List GVal → Prop
  | [] => True
  | g :: gs => keysOk g ∧ keysOks gs
end

mutual
theorem sane_keys : ∀ (g : GVal) (deep c : Int), (saneG g deep c).1 = 0 → keysOk g
  | .mk k b n s l ks vs, deep, c, h => by
    simp only [saneG] at h
    split at h
    · simp at h
    split at h
    · simp at h
    rename_i ht
    split at h
    · simp at h
    split at h
    · simp at h
    simp only [keysOk]
    have hl : (saneL l deep (c + 1)).1 = 0 := by
      by_cases h0 : (saneL l deep (c + 1)).1 = 0
      · exact h0
      · rw [if_pos h0] at h; exact h
    rw [if_neg (by simp [hl])] at h
    exact ⟨by simpa using ht, sane_keyss l _ _ hl, sane_keyss vs _ _ h⟩
theorem sane_keyss : ∀ (gs : List GVal) (deep c : Int), (saneL gs deep c).1 = 0 → keysOks gs
  | [], _, _, _ => trivial
  | g :: gs, deep, c, h => by
    simp only [saneL] at h
    have hg : (saneG g (deep + 1) c).1 = 0 := by
      by_cases h0 : (saneG g (deep + 1) c).1 = 0
      · exact h0
      · rw [if_pos h0] at h; exact h
    rw [if_neg (by simp [hg])] at h
    exact ⟨sane_keys g _ _ hg, sane_keyss gs _ _ h⟩
end
theorem keysOks_mem : ∀ {gs : List GVal} {g : GVal}, keysOks gs → g ∈ gs → keysOk g
  | _ :: _, _, h, hm => by
    cases hm with
    | head => exact h.1
    | tail _ hm => exact keysOks_mem h.2 hm
theorem wfs_mem : ∀ {gs : List GVal} {g : GVal}, GVal.wfs gs → g ∈ gs → g.wf
  | _ :: _, _, h, hm => by
    simp only [GVal.wfs] at h
    cases hm with
    | head => exact h.1
    | tail _ hm => exact wfs_mem h.2 hm

theorem twice_nodup : ∀ (ks met : List ByteArray), twiceFrom met ks = false → (∀ k ∈ ks, k ∉ met) ∧ ks.Nodup
  | [], _, _ => ⟨fun _ h => (by cases h), List.nodup_nil⟩
  | k :: ks, met, h => by
    rw [twiceFrom] at h
    split at h
    · cases h
    rename_i hk
    obtain ⟨h1, h2⟩ := twice_nodup ks _ h
    refine ⟨fun x hx => ?_, ?_⟩
    · cases hx with
      | head => exact fun hm => hk (hasKey_iff.2 hm)
      | tail _ hx => exact fun hm => h1 x hx (List.mem_append_left _ hm)
    · refine List.nodup_cons.2 ⟨fun hm => h1 k hm (List.mem_append_right _ List.mem_cons_self), h2⟩

/-! ### What stands in a value -/

structure Itm where
  nm : Bool
  name : ByteArray
  v : GVal

def itsL (l : List GVal) : List Itm := l.map fun g => ⟨false, emptyS, g⟩
def itsM : List GVal → List ByteArray → List Itm
  | g :: gs, k :: ks => ⟨true, k, g⟩ :: itsM gs ks
  | _, _ => []
def its (g : GVal) : List Itm := itsL g.l ++ itsM g.vs g.ks
def valsI (xs : List Itm) : List GVal := xs.map Itm.v
theorem valsI_L (l : List GVal) : valsI (itsL l) = l := by simp [valsI, itsL, Function.comp_def]
theorem itsM_len : ∀ (vs : List GVal) (ks : List ByteArray), ks.length = vs.length → (itsM vs ks).length = vs.length ∧ valsI (itsM vs ks) = vs
  | [], [], _ => ⟨rfl, rfl⟩
  | g :: gs, k :: ks, h => by
    obtain ⟨h1, h2⟩ := itsM_len gs ks (by simpa using h)
    exact ⟨by simp [itsM, h1], by simp only [valsI, itsM, List.map_cons] at h2 ⊢; rw [h2]⟩
  | [], _ :: _, h => by simp at h
  | _ :: _, [], h => by simp at h
theorem itsM_get : ∀ (vs : List GVal) (ks : List ByteArray) (m : Nat) (x : Itm), (itsM vs ks)[m]? = some x → x.nm = true ∧ ks[m]? = some x.name ∧ vs[m]? = some x.v
  | [], ks, m, x, h => by cases ks <;> simp [itsM] at h
  | g :: gs, [], m, x, h => by simp [itsM] at h
  | g :: gs, k :: ks, 0, x, h => by simp only [itsM, List.getElem?_cons_zero, Option.some.injEq] at h; subst h; exact ⟨rfl, rfl, rfl⟩
  | g :: gs, k :: ks, m + 1, x, h => by
    simp only [itsM, List.getElem?_cons_succ] at h ⊢
    exact itsM_get gs ks m x h
theorem wf_eq (g : GVal) : g.wf ↔ g.ks.length = g.vs.length ∧ GVal.wfs g.l ∧ GVal.wfs g.vs := by cases g; simp only [GVal.wf, GVal.ks, GVal.vs, GVal.l]
theorem keysOk_eq (g : GVal) : keysOk g ↔ twiceG g.ks = false ∧ keysOks g.l ∧ keysOks g.vs := by cases g; simp only [keysOk, GVal.ks, GVal.vs, GVal.l]
theorem vals_its {g : GVal} (h : g.wf) : valsI (its g) = g.l ++ g.vs := by
  have h1 := (itsM_len g.vs g.ks ((wf_eq g).1 h).1).2
  have h0 := valsI_L g.l
  unfold valsI at h0 h1 ⊢
  rw [its, List.map_append, h0, h1]
theorem its_mem {g : GVal} {x : Itm} (h : g.wf) (hx : x ∈ its g) : x.v ∈ g.l ++ g.vs := by
  rw [← vals_its h]
  exact List.mem_map.2 ⟨x, hx, rfl⟩
theorem its_wf {g : GVal} {x : Itm} (h : g.wf) (hx : x ∈ its g) : x.v.wf := by
  have h' := (wf_eq g).1 h
  rcases List.mem_append.1 (its_mem h hx) with hm | hm
  · exact wfs_mem h'.2.1 hm
  · exact wfs_mem h'.2.2 hm
theorem its_keys {g : GVal} {x : Itm} (h : g.wf) (hk : keysOk g) (hx : x ∈ its g) : keysOk x.v := by
  have h' := (keysOk_eq g).1 hk
  rcases List.mem_append.1 (its_mem h hx) with hm | hm
  · exact keysOks_mem h'.2.1 hm
  · exact keysOks_mem h'.2.2 hm
theorem its_name {g : GVal} {x : Itm} (hx : x ∈ its g) : x.nm = false → x.name = emptyS := by
  intro hn
  rcases List.mem_append.1 hx with hm | hm
  · obtain ⟨y, _, rfl⟩ := List.mem_map.1 hm; rfl
  · obtain ⟨m, hm'⟩ := List.mem_iff_getElem?.1 hm
    rw [(itsM_get _ _ _ _ hm').1] at hn
    cases hn

/-- The step to what stands at m. -/
def stepOf (m : Nat) (x : Itm) : GStep := ⟨x.name, if x.nm then 0 else m, x.nm⟩

theorem stepOf_inj {g : GVal} (hk : keysOk g) {m n : Nat} {x y : Itm} (hx : (its g)[m]? = some x) (hy : (its g)[n]? = some y) (h : stepOf m x = stepOf n y) : m = n := by
  unfold stepOf at h
  injection h with h1 h2 h3
  cases hnx : x.nm with
  | false =>
    rw [hnx] at h2 h3
    rw [← h3] at h2
    simp at h2
    omega
  | true =>
    rw [hnx] at h3
    have hnd := (twice_nodup _ _ ((keysOk_eq g).1 hk).1).2
    have key : ∀ {m : Nat} {x : Itm}, (its g)[m]? = some x → x.nm = true → g.l.length ≤ m ∧ g.ks[m - g.l.length]? = some x.name := by
      intro m x hx hn
      unfold its at hx
      by_cases hm : m < g.l.length
      · rw [List.getElem?_append_left (by simpa [itsL] using hm)] at hx
        simp only [itsL, List.getElem?_map, Option.map_eq_some_iff] at hx
        obtain ⟨_, _, rfl⟩ := hx
        cases hn
      · rw [List.getElem?_append_right (by simp [itsL]; omega)] at hx
        have hl : (itsL g.l).length = g.l.length := by simp [itsL]
        rw [hl] at hx
        exact ⟨by omega, (itsM_get _ _ _ _ hx).2.1⟩
    obtain ⟨a1, a2⟩ := key hx hnx
    obtain ⟨b1, b2⟩ := key hy h3.symm
    have hlt := (List.getElem?_eq_some_iff.1 a2).1
    have := (List.getElem?_inj (j := n - g.l.length) hlt hnd).1 (by rw [a2, b2, h1])
    omega

/-! ### The shred of what stands in a value -/

def shredI (gap : Int) : List Itm → Int → Int → List GRec × Int
  | [], _, now => ([], now)
  | x :: xs, lv, now =>
    let p := shredV gap x.v lv x.nm x.name now
    let q := shredI gap xs lv p.2
    (p.1 ++ q.1, q.2)
theorem shredI_L (gap : Int) : ∀ (l : List GVal) (lv now : Int), shredI gap (itsL l) lv now = shredL gap l lv now
  | [], _, _ => rfl
  | g :: gs, lv, now => by
    show shredI gap (⟨false, emptyS, g⟩ :: itsL gs) lv now = _
    simp only [shredI, shredL, shredI_L gap gs]
    rfl
theorem shredI_M (gap : Int) : ∀ (vs : List GVal) (ks : List ByteArray) (lv now : Int), shredI gap (itsM vs ks) lv now = shredM gap vs ks lv now
  | [], [], _, _ => rfl
  | [], _ :: _, _, _ => rfl
  | _ :: _, [], _, _ => rfl
  | g :: gs, k :: ks, lv, now => by simp only [itsM, shredI, shredM, shredI_M gap gs ks]
theorem shredI_append (gap : Int) : ∀ (a b : List Itm) (lv now : Int), shredI gap (a ++ b) lv now = ((shredI gap a lv now).1 ++ (shredI gap b lv (shredI gap a lv now).2).1, (shredI gap b lv (shredI gap a lv now).2).2)
  | [], b, lv, now => by simp [shredI]
  | x :: a, b, lv, now => by simp only [List.cons_append, shredI, shredI_append gap a b, List.append_assoc]
theorem shredV_its (gap : Int) (g : GVal) (lv : Int) (nm : Bool) (name : ByteArray) (now : Int) (h : g.wf) :
    (shredV gap g lv nm name now).1 = ⟨now + gap, now + wV gap g, lv, g.kind, nm, name, g.b, g.n, g.s⟩ :: (shredI gap (its g) (lv + 1) (now + gap)).1 := by
  have h2 := (shredV_sk gap g lv nm name now h).2
  rw [shredV_eq] at h2 ⊢
  dsimp only at h2 ⊢
  rw [h2, its, shredI_append, shredI_L, shredI_M]
theorem shredI_sk (gap : Int) : ∀ (xs : List Itm) (lv now : Int), GVal.wfs (valsI xs) → (shredI gap xs lv now).1.map se = skL gap (valsI xs) now ∧ (shredI gap xs lv now).2 = now + wL gap (valsI xs)
  | [], lv, now, _ => by simp [shredI, skL, wL, valsI]
  | x :: xs, lv, now, h => by
    simp only [valsI, List.map_cons, GVal.wfs] at h ⊢
    obtain ⟨h1, h2⟩ := shredV_sk gap x.v lv x.nm x.name now h.1
    obtain ⟨h3, h4⟩ := shredI_sk gap xs lv (shredV gap x.v lv x.nm x.name now).2 h.2
    rw [h2] at h3 h4
    simp only [valsI] at h3 h4
    simp only [shredI, skL, wL, List.map_append, h1, h2, h3, h4]
    exact ⟨trivial, by omega⟩

theorem wfs_append : ∀ {a b : List GVal}, GVal.wfs (a ++ b) ↔ GVal.wfs a ∧ GVal.wfs b
  | [], b => by simp [GVal.wfs]
  | g :: a, b => by simp only [List.cons_append, GVal.wfs, wfs_append (a := a), and_assoc]
theorem wfs_its {g : GVal} (h : g.wf) : GVal.wfs (valsI (its g)) := by
  rw [vals_its h, wfs_append]
  exact ((wf_eq g).1 h).2

/-! ### Where a value lies in its value's records -/

def cntI (xs : List Itm) : Nat := cntL (valsI xs)
def wI (gap : Int) (xs : List Itm) : Int := wL gap (valsI xs)

inductive Sub (gap : Int) : GVal → Nat → Int → List GStep → GVal → Nat → Int → Prop
  | refl (g : GVal) (p : Nat) (now : Int) : Sub gap g p now [] g p now
  | step {g : GVal} {p : Nat} {now : Int} {m : Nat} {x : Itm} {P : List GStep} {h : GVal} {q : Nat} {now' : Int} (hx : (its g)[m]? = some x)
      (hs : Sub gap x.v (p + 1 + cntI ((its g).take m)) (now + gap + wI gap ((its g).take m)) P h q now') : Sub gap g p now (stepOf m x :: P) h q now'

theorem cntI_its {g : GVal} (h : g.wf) : cntV g = 1 + cntI (its g) := by rw [cntI, vals_its h, cntL_append, cntV_eq]
theorem wI_its {gap : Int} {g : GVal} (h : g.wf) : wV gap g = gap + wI gap (its g) + gap := by rw [wI, vals_its h, wV_eq]
theorem split_at {xs : List Itm} {m : Nat} {x : Itm} (h : xs[m]? = some x) : xs = xs.take m ++ x :: xs.drop (m + 1) := by
  have hl := (List.getElem?_eq_some_iff.1 h).1
  have := (List.getElem?_eq_some_iff.1 h).2
  rw [← this, ← List.drop_eq_getElem_cons hl, List.take_append_drop]
theorem valsI_append (a b : List Itm) : valsI (a ++ b) = valsI a ++ valsI b := by simp [valsI]
theorem wI_split {gap : Int} {xs : List Itm} {m : Nat} {x : Itm} (h : xs[m]? = some x) : wI gap xs = wI gap (xs.take m) + (wV gap x.v + wI gap (xs.drop (m + 1))) := by
  conv => lhs; rw [split_at h]
  unfold wI
  rw [valsI_append, wL_append]
  rfl
theorem cntI_split {xs : List Itm} {m : Nat} {x : Itm} (h : xs[m]? = some x) : cntI xs = cntI (xs.take m) + (cntV x.v + cntI (xs.drop (m + 1))) := by
  conv => lhs; rw [split_at h]
  unfold cntI
  rw [valsI_append, cntL_append]
  rfl

/-- Everything stands somewhere. -/
theorem sub_all {gap : Int} (g : GVal) : g.wf → ∀ (p : Nat) (now : Int) (i : Nat), p ≤ i → i < p + cntV g → ∃ P h now', Sub gap g p now P h i now' := by
  induction g using GVal.byWeight with | _ g ih => ?_
  intro hw p now i h1 h2
  by_cases hi : i = p
  · subst hi; exact ⟨[], g, now, .refl g i now⟩
  have key : ∀ n, n ≤ (its g).length → i < p + 1 + cntI ((its g).take n) → ∃ P h now', Sub gap g p now P h i now' := by
    intro n
    induction n with
    | zero =>
      intro _ h
      have : cntI ((its g).take 0) = 0 := by rw [List.take_zero]; rfl
      omega
    | succ n ihn =>
      intro hn h
      by_cases hlt : i < p + 1 + cntI ((its g).take n)
      · exact ihn (by omega) hlt
      · have hx : (its g)[n]? = some (its g)[n] := List.getElem?_eq_getElem (by omega)
        generalize (its g)[n] = x at hx
        have e : (its g).take (n + 1) = (its g).take n ++ [x] := by rw [List.take_succ_eq_append_getElem (by omega), (List.getElem?_eq_some_iff.1 hx).2]
        have hc : cntI ((its g).take (n + 1)) = cntI ((its g).take n) + cntV x.v := by
          unfold cntI
          rw [e, valsI_append, cntL_append]
          rfl
        have hm := List.mem_of_getElem? hx
        obtain ⟨P, h', now', hs⟩ := ih x.v (in_weight (its_mem hw hm)) (its_wf hw hm) (p + 1 + cntI ((its g).take n)) (now + gap + wI gap ((its g).take n)) i (by omega) (by omega)
        exact ⟨_, _, _, .step hx hs⟩
  have hc := cntI_its hw
  exact key (its g).length (Nat.le_refl _) (by rw [List.take_length]; omega)

theorem wI_nn {gap : Int} (hg : 0 < gap) (xs : List Itm) : 0 ≤ wI gap xs := wL_nn hg _

theorem sub_bd {gap : Int} (hg : 0 < gap) {g : GVal} {p : Nat} {now : Int} {P : List GStep} {h : GVal} {q : Nat} {now' : Int} (hs : Sub gap g p now P h q now') : g.wf →
    h.wf ∧ now ≤ now' ∧ now' + wV gap h ≤ now + wV gap g ∧ (P ≠ [] → now + gap ≤ now' ∧ now' + wV gap h + gap ≤ now + wV gap g) := by
  induction hs with
  | refl g p now => exact fun hw => ⟨hw, Int.le_refl _, Int.le_refl _, fun h => absurd rfl h⟩
  | @step g p now m x P h q now' hx hs ih =>
    intro hw
    obtain ⟨h0, h1, h2, -⟩ := ih (its_wf hw (List.mem_of_getElem? hx))
    have e1 := wI_split (gap := gap) hx
    have e2 := wI_its (gap := gap) hw
    have e3 := wI_nn hg ((its g).take m)
    have e4 := wI_nn hg ((its g).drop (m + 1))
    exact ⟨h0, by omega, by omega, fun _ => ⟨by omega, by omega⟩⟩

/-- Two blocks: one in the other, just if its place begins with the other's; or apart. -/
def Cmp (gap : Int) (P : List GStep) (h : GVal) (a : Int) (Q : List GStep) (k : GVal) (b : Int) : Prop :=
  (P <+: Q ↔ a ≤ b ∧ b + wV gap k ≤ a + wV gap h) ∧ (Q <+: P ↔ b ≤ a ∧ a + wV gap h ≤ b + wV gap k) ∧ (P <+: Q ∨ Q <+: P ∨ a + wV gap h ≤ b ∨ b + wV gap k ≤ a)

theorem prefix_cons_iff {s t : GStep} {P Q : List GStep} : s :: P <+: t :: Q ↔ s = t ∧ P <+: Q := List.cons_prefix_cons

theorem sub_cmp {gap : Int} (hg : 0 < gap) {g : GVal} {p : Nat} {now : Int} {P : List GStep} {h : GVal} {q : Nat} {a : Int} (hs : Sub gap g p now P h q a) : g.wf → keysOk g → ∀ {Q : List GStep} {k : GVal} {r : Nat} {b : Int}, Sub gap g p now Q k r b → Cmp gap P h a Q k b := by
  induction hs with
  | refl g p now =>
    intro hw hk Q k r b ht
    obtain ⟨-, h1, h2, h3⟩ := sub_bd hg ht hw
    refine ⟨⟨fun _ => ⟨h1, h2⟩, fun _ => List.nil_prefix⟩, ⟨fun h => ?_, fun h => ?_⟩, .inl List.nil_prefix⟩
    · have hQ : Q = [] := by simpa using h
      subst hQ
      cases ht
      omega
    · by_cases hQ : Q = []
      · rw [hQ]; exact List.nil_prefix
      · have := h3 hQ; omega
  | @step g p now m x P h q a hx hs ih =>
    intro hw hk Q k r b ht
    have hbs := sub_bd hg (Sub.step hx hs) hw
    have hm := List.mem_of_getElem? hx
    cases ht with
    | refl =>
      have h3 := hbs.2.2.2 (by simp)
      refine ⟨⟨fun h => absurd h (by simp), fun h => by omega⟩, ⟨fun _ => ⟨by omega, by omega⟩, fun _ => List.nil_prefix⟩, .inr (.inl List.nil_prefix)⟩
    | @step _ _ _ n y Q _ _ _ hy ht =>
      by_cases hmn : m = n
      · subst hmn
        obtain rfl : x = y := by rw [hx] at hy; exact Option.some.inj hy
        obtain ⟨h1, h2, h3⟩ := ih (its_wf hw hm) (its_keys hw hk hm) ht
        refine ⟨?_, ?_, ?_⟩
        · rw [prefix_cons_iff, ← h1]; simp
        · rw [prefix_cons_iff, ← h2]; simp
        · rw [prefix_cons_iff, prefix_cons_iff]; simpa using h3
      · have hne : stepOf m x ≠ stepOf n y := fun e => hmn (stepOf_inj hk hx hy e)
        have hb1 := sub_bd hg hs (its_wf hw hm)
        have hb2 := sub_bd hg ht (its_wf hw (List.mem_of_getElem? hy))
        have hap : a + wV gap h ≤ b ∨ b + wV gap k ≤ a := by
          have ord : ∀ {m n : Nat} {x : Itm}, (its g)[m]? = some x → m < n → wI gap ((its g).take m) + wV gap x.v ≤ wI gap ((its g).take n) := by
            intro m n x hx hlt
            have hx' : ((its g).take n)[m]? = some x := by rw [List.getElem?_take, if_pos hlt]; exact hx
            have e := wI_split (gap := gap) hx'
            rw [List.take_take, Nat.min_eq_left (by omega)] at e
            have := wI_nn hg (((its g).take n).drop (m + 1))
            omega
          rcases Nat.lt_or_gt_of_ne hmn with hlt | hlt
          · have := ord hx hlt; left; omega
          · have := ord hy hlt; right; omega
        have hp1 := wV_pos hg h
        have hp2 := wV_pos hg k
        refine ⟨?_, ?_, .inr (.inr hap)⟩
        · rw [prefix_cons_iff]
          exact ⟨fun h => absurd h.1 hne, fun h => by omega⟩
        · rw [prefix_cons_iff]
          exact ⟨fun h => absurd h.1.symm hne, fun h => by omega⟩

/-! ### The place of a record -/

structure Loc (gap : Int) (L : List GRec) (g : GVal) (p : Nat) (now : Int) (pre : List GStep) : Prop where
  wf : g.wf
  keys : keysOk g
  at_ : ∃ nm name rest, L.drop p = (shredV gap g pre.length nm name now).1 ++ rest ∧ front (now + wV gap g) (rest.map se)
  place : ∀ n, p < n → upF L n p = pre.reverse

theorem parentK_at {L : List GRec} {st : Int} {p : Nat} : ∀ {q : Nat}, p < q → (∀ k, p < k → k < q → (L[k]?.map GRec.en).getD 0 < st) → ¬ (L[p]?.map GRec.en).getD 0 < st → parentK L st q = p
  | 0, h, _, _ => by omega
  | q + 1, h, hk, hp => by
    rw [parentK]
    by_cases hq : q = p
    · subst hq; rw [if_neg hp]
    · rw [if_pos (hk q (by omega) (by omega))]
      exact parentK_at (by omega) (fun k h1 h2 => hk k h1 (by omega)) hp

theorem pos_get : ∀ (gs : List GVal) (p m : Nat), m < gs.length → (pos gs p)[m]? = some (p + cntL (gs.take m))
  | [], _, _, h => by simp at h
  | g :: gs, p, 0, _ => by simp [pos, cntL]
  | g :: gs, p, m + 1, h => by
    rw [pos, List.getElem?_cons_succ, pos_get gs _ m (by simpa using h), List.take_succ_cons, cntL]
    congr 1
    omega
theorem idxF_at : ∀ (l : List Nat) (v m k : Nat), l[m]? = some v → (∀ j, j < m → l[j]? ≠ some v) → idxF v l k = (k + m : Nat)
  | [], v, m, k, h, _ => by simp at h
  | x :: l, v, 0, k, h, _ => by
    simp only [List.getElem?_cons_zero, Option.some.injEq] at h
    rw [idxF, if_pos h.symm, Nat.add_zero]
  | x :: l, v, m + 1, k, h, hj => by
    have h0 := hj 0 (by omega)
    simp only [List.getElem?_cons_zero, ne_eq, Option.some.injEq] at h0
    rw [idxF, if_neg (fun e => h0 e.symm), idxF_at l v m (k + 1) (by simpa using h) fun j hlt => by simpa using hj (j + 1) (by omega)]
    congr 1
    omega

theorem skI_en {gap : Int} (hg : 0 < gap) {gs : List GVal} {now : Int} {S T : Sk} {p k : Nat} {x : Int × Int} (h : S.drop p = skL gap gs now ++ T) (h1 : p ≤ k) (h2 : k < p + cntL gs) (hx : S[k]? = some x) : x.2 ≤ now + wL gap gs := by
  have : (S.drop p)[k - p]? = some x := by rw [List.getElem?_drop, show p + (k - p) = k by omega]; exact hx
  rw [h, List.getElem?_append_left (by rw [skL_len]; omega)] at this
  exact (skL_bd hg gs now x (List.mem_of_getElem? this)).2.2

theorem drop_head {α : Type} {L T rest : List α} {p : Nat} {x : α} (h : L.drop p = x :: T ++ rest) : L[p]? = some x := by
  have : (L.drop p)[0]? = some x := by rw [h]; rfl
  simpa using this
theorem Loc.rec_ {gap : Int} {L : List GRec} {g : GVal} {p : Nat} {now : Int} {pre : List GStep} (h : Loc gap L g p now pre) :
    ∃ nm name, L[p]? = some ⟨now + gap, now + wV gap g, pre.length, g.kind, nm, name, g.b, g.n, g.s⟩ := by
  obtain ⟨nm, name, rest, h1, -⟩ := h.at_
  rw [shredV_its _ _ _ _ _ _ h.wf] at h1
  exact ⟨nm, name, drop_head h1⟩

theorem Loc.kids {gap : Int} (hg : 0 < gap) {L : List GRec} {g : GVal} {p : Nat} {now : Int} {pre : List GStep} (h : Loc gap L g p now pre) :
    kidsG L p = pos (g.l ++ g.vs) (p + 1) := by
  obtain ⟨nm, name, rest, h1, hfr⟩ := h.at_
  have h2 := congrArg (List.map se) h1
  rw [List.map_drop, List.map_append, (shredV_sk gap g _ nm name now h.wf).1, skV_eq, List.cons_append] at h2
  obtain ⟨h3, h4⟩ := drop_at h2
  have hlen : (L.map se).length = p + (1 + (cntL (g.l ++ g.vs) + (rest.map se).length)) := by
    have hp : p ≤ (L.map se).length := by
      have := (List.getElem?_eq_some_iff.1 h3).1
      omega
    have := congrArg List.length h2
    rw [List.length_drop, List.length_cons, List.length_append, skL_len] at this
    omega
  have hwe := wV_eq gap g
  rw [kidsG_se]
  unfold kidsAt
  rw [h3]
  refine kidsP_pos hg (rest := rest.map se) (fun x hx => ?_) (g.l ++ g.vs) (p + 1) (now + gap) _ h4 ?_ ?_
  · exact hfr x hx
  · show _ ≤ now + wV gap g
    omega
  · have := pos_cnt (g.l ++ g.vs)
    omega

theorem Loc.kid {gap : Int} (hg : 0 < gap) {L : List GRec} {g : GVal} {p : Nat} {now : Int} {pre : List GStep} (h : Loc gap L g p now pre) {m : Nat} {x : Itm} (hx : (its g)[m]? = some x) :
    Loc gap L x.v (p + 1 + cntI ((its g).take m)) (now + gap + wI gap ((its g).take m)) (pre ++ [stepOf m x]) ∧ parentG L (p + 1 + cntI ((its g).take m)) = p := by
  have hm := List.mem_of_getElem? hx
  have hwx := its_wf h.wf hm
  have hks := h.kids hg
  obtain ⟨nm, name, rest, h1, hfr⟩ := h.at_
  rw [shredV_its _ _ _ _ _ _ h.wf] at h1
  have hd1 : L.drop (p + 1) = (shredI gap (its g) (pre.length + 1) (now + gap)).1 ++ rest := by
    rw [← List.drop_drop, h1]
    rfl
  have hwi := wfs_its h.wf
  have hsp := split_at hx
  have hwt : GVal.wfs (valsI ((its g).take m)) := by
    rw [hsp, valsI_append, wfs_append] at hwi
    exact hwi.1
  have hwd : GVal.wfs (valsI ((its g).drop (m + 1))) := by
    rw [hsp, valsI_append, wfs_append] at hwi
    exact hwi.2.2
  have hsk := shredI_sk gap ((its g).take m) (pre.length + 1) (now + gap) hwt
  have hd0 := hd1
  rw [hsp, shredI_append, hsk.2] at hd1
  simp only [shredI, List.append_assoc] at hd1
  have hl1 : (shredI gap ((its g).take m) (pre.length + 1) (now + gap)).1.length = cntI ((its g).take m) := by
    have := congrArg List.length hsk.1
    rw [List.length_map, skL_len] at this
    exact this
  have hd2 : L.drop (p + 1 + cntI ((its g).take m)) = (shredV gap x.v (pre.length + 1) x.nm x.name (now + gap + wI gap ((its g).take m))).1 ++ ((shredI gap ((its g).drop (m + 1)) (pre.length + 1) (shredV gap x.v (pre.length + 1) x.nm x.name (now + gap + wI gap ((its g).take m))).2).1 ++ rest) := by
    rw [← hl1, ← List.drop_drop, hd1, List.drop_left]
    rfl
  have hsv := shredV_sk gap x.v (pre.length + 1) x.nm x.name (now + gap + wI gap ((its g).take m)) hwx
  have hwe := wI_its (gap := gap) h.wf
  have hws := wI_split (gap := gap) hx
  have hskd := shredI_sk gap ((its g).drop (m + 1)) (pre.length + 1) (shredV gap x.v (pre.length + 1) x.nm x.name (now + gap + wI gap ((its g).take m))).2 hwd
  have hfr2 : front (now + gap + wI gap ((its g).take m) + wV gap x.v) (((shredI gap ((its g).drop (m + 1)) (pre.length + 1) (shredV gap x.v (pre.length + 1) x.nm x.name (now + gap + wI gap ((its g).take m))).2).1 ++ rest).map se) := by
    rw [List.map_append, hskd.1, hsv.2]
    refine front_skL hg _ hfr ?_
    show _ + wI gap ((its g).drop (m + 1)) ≤ _
    omega
  have hq : L[p + 1 + cntI ((its g).take m)]? = some ⟨now + gap + wI gap ((its g).take m) + gap, now + gap + wI gap ((its g).take m) + wV gap x.v, pre.length + 1, x.v.kind, x.nm, x.name, x.v.b, x.v.n, x.v.s⟩ := by
    rw [shredV_its _ _ _ _ _ _ hwx] at hd2
    exact drop_head hd2
  have hp : L[p]? = some ⟨now + gap, now + wV gap g, pre.length, g.kind, nm, name, g.b, g.n, g.s⟩ := drop_head h1
  have hwd0 := wI_nn hg ((its g).drop (m + 1))
  have hwx0 := wV_pos hg x.v
  have hwx1 : 2 * gap ≤ wV gap x.v := by
    have := wV_eq gap x.v
    have := wL_nn hg (x.v.l ++ x.v.vs)
    omega
  have hpar : parentG L (p + 1 + cntI ((its g).take m)) = p := by
    unfold parentG
    rw [hq]
    refine parentK_at (by omega) (fun k hk1 hk2 => ?_) ?_
    · show (L[k]?.map GRec.en).getD 0 < now + gap + wI gap ((its g).take m) + gap
      have hS : (L.map se).drop (p + 1) = skL gap (valsI (its g)) (now + gap) ++ rest.map se := by
        rw [← List.map_drop, hd0, List.map_append, (shredI_sk gap (its g) _ _ hwi).1]
      rw [hsp, valsI_append, skL_append, List.append_assoc] at hS
      have hkl : k < L.length := by
        have := (List.getElem?_eq_some_iff.1 hq).1
        omega
      have hkx : (L.map se)[k]? = some (se L[k]) := by rw [List.getElem?_map, List.getElem?_eq_getElem hkl]; rfl
      have := skI_en hg hS (k := k) (by omega) hk2 hkx
      rw [List.getElem?_eq_getElem hkl]
      show L[k].en < _
      have hen : (se L[k]).2 = L[k].en := rfl
      rw [hen] at this
      have hwi' : wI gap ((its g).take m) = wL gap (valsI ((its g).take m)) := rfl
      omega
    · rw [hp]
      show ¬ now + wV gap g < now + gap + wI gap ((its g).take m) + gap
      omega
  refine ⟨⟨hwx, its_keys h.wf h.keys hm, ⟨x.nm, x.name, _, ?_, hfr2⟩, fun n hn => ?_⟩, hpar⟩
  · rw [List.length_append, List.length_singleton]
    exact hd2
  · obtain ⟨n, rfl⟩ : ∃ k, n = k + 1 := ⟨n - 1, by omega⟩
    unfold upF
    rw [hpar, if_neg (by omega), Int.toNat_natCast, h.place n (by omega), List.reverse_append]
    show stepG L (p + 1 + cntI ((its g).take m)) p :: _ = [stepOf m x] ++ _
    rw [List.singleton_append]
    congr 1
    unfold stepG stepOf
    rw [hq]
    dsimp only
    congr 1
    rw [hks]
    split
    · rfl
    · have hml : m < (g.l ++ g.vs).length := by
        rw [← vals_its h.wf]
        simpa [valsI] using (List.getElem?_eq_some_iff.1 hx).1
      have htk : ∀ j, cntL ((g.l ++ g.vs).take j) = cntI ((its g).take j) := fun j => by
        rw [← vals_its h.wf, cntI, valsI, valsI, List.map_take]
      have := idxF_at (pos (g.l ++ g.vs) (p + 1)) (p + 1 + cntI ((its g).take m)) m 0 (by rw [pos_get _ _ _ hml, htk]) (fun j hj => by
        rw [pos_get _ _ _ (by omega), htk]
        intro e
        have e := Option.some.inj e
        have hj' : (its g)[j]? = some ((its g)[j]'(by have := (List.getElem?_eq_some_iff.1 hx).1; omega)) := List.getElem?_eq_getElem _
        have hj2 : ((its g).take m)[j]? = some ((its g)[j]'(by have := (List.getElem?_eq_some_iff.1 hx).1; omega)) := by rw [List.getElem?_take, if_pos hj]; exact hj'
        have hc := cntI_split hj2
        rw [List.take_take, Nat.min_eq_left (by omega)] at hc
        have := cntV_pos ((its g)[j]'(by have := (List.getElem?_eq_some_iff.1 hx).1; omega)).v
        omega)
      rw [this]
      omega

theorem Loc.sub {gap : Int} (hg : 0 < gap) {L : List GRec} {g : GVal} {p : Nat} {now : Int} {P : List GStep} {h : GVal} {q : Nat} {now' : Int} (hs : Sub gap g p now P h q now') :
    ∀ {pre : List GStep}, Loc gap L g p now pre → Loc gap L h q now' (pre ++ P) := by
  induction hs with
  | refl g p now => intro pre hl; rw [List.append_nil]; exact hl
  | @step g p now m x P h q now' hx hs ih =>
    intro pre hl
    have := ih (hl.kid hg hx).1
    rw [List.append_assoc] at this
    exact this

theorem loc_root {gap : Int} {g : GVal} {nm : Bool} {name : ByteArray} (hw : g.wf) (hk : keysOk g) : Loc gap (shredV gap g 0 nm name 0).1 g 0 0 [] := by
  refine ⟨hw, hk, ⟨nm, name, [], by rw [List.drop_zero, List.append_nil]; rfl, fun x hx => by cases hx⟩, fun n hn => ?_⟩
  obtain ⟨n, rfl⟩ : ∃ k, n = k + 1 := ⟨n - 1, by omega⟩
  unfold upF
  rw [if_pos (by unfold parentG parentK; omega)]
  rfl

/-- Each record has its place in the value. -/
theorem shred_loc {gap : Int} (hg : 0 < gap) {g : GVal} {nm : Bool} {name : ByteArray} (hw : g.wf) (hk : keysOk g) {i : Nat} (hi : i < cntV g) :
    ∃ h now, Sub gap g 0 0 (placeG (shredV gap g 0 nm name 0).1 i) h i now ∧ Loc gap (shredV gap g 0 nm name 0).1 h i now (placeG (shredV gap g 0 nm name 0).1 i) := by
  obtain ⟨P, h, now, hs⟩ := sub_all (gap := gap) g hw 0 0 i (Nat.zero_le _) (by omega)
  have hl := Loc.sub hg hs (loc_root (nm := nm) (name := name) hw hk)
  rw [List.nil_append] at hl
  have : placeG (shredV gap g 0 nm name 0).1 i = P := by
    unfold placeG
    rw [hl.place (i + 1) (by omega), List.reverse_reverse]
  rw [this]
  exact ⟨h, now, hs, hl⟩

/-! ### Steps -/

def Canon (s : GStep) : Prop := (s.named = true → s.at_ = 0) ∧ (s.named = false → s.key = emptyS)
theorem sub_canon {gap : Int} {g : GVal} {p : Nat} {now : Int} {P : List GStep} {h : GVal} {q : Nat} {now' : Int} (hs : Sub gap g p now P h q now') : ∀ s ∈ P, Canon s := by
  induction hs with
  | refl => intro s hs; cases hs
  | @step g p now m x P h q now' hx hs ih =>
    intro s hs
    cases hs with
    | head => exact ⟨fun hn => by simp only [stepOf] at hn ⊢; rw [if_pos hn], fun hn => its_name (List.mem_of_getElem? hx) hn⟩
    | tail _ hs => exact ih s hs
theorem stepEq_iff {x y : GStep} (hx : Canon x) (hy : Canon y) : stepEq x y = true ↔ x = y := by
  obtain ⟨k1, a1, n1⟩ := x
  obtain ⟨k2, a2, n2⟩ := y
  obtain ⟨hx1, hx2⟩ := hx
  obtain ⟨hy1, hy2⟩ := hy
  cases n1 <;> cases n2 <;> simp [stepEq] at *
  · subst hx2 hy2; simp
  · subst hx1 hy1; simp
theorem sameG_iff : ∀ {a b : List GStep}, (∀ s ∈ a, Canon s) → (∀ s ∈ b, Canon s) → (sameG a b = true ↔ a = b)
  | [], [], _, _ => by simp [sameG]
  | [], _ :: _, _, _ => by simp [sameG]
  | _ :: _, [], _, _ => by simp [sameG]
  | x :: a, y :: b, ha, hb => by
    rw [sameG, Bool.and_eq_true, stepEq_iff (ha x List.mem_cons_self) (hb y List.mem_cons_self), sameG_iff (fun s h => ha s (List.mem_cons_of_mem _ h)) (fun s h => hb s (List.mem_cons_of_mem _ h)), List.cons.injEq]
/-- Is x the beginning of y? -/
def beginsG (x y : List GStep) : Bool := decide ((x.length : Int) ≤ y.length) && sameG x (y.take x.length)
theorem beginsG_iff {x y : List GStep} (hx : ∀ s ∈ x, Canon s) (hy : ∀ s ∈ y, Canon s) : beginsG x y = true ↔ x <+: y := by
  unfold beginsG
  rw [Bool.and_eq_true, sameG_iff hx (fun s h => hy s (List.mem_of_mem_take h)), decide_eq_true_eq, ← List.prefix_iff_eq_take]
  refine ⟨fun h => h.2, fun h => ⟨?_, h⟩⟩
  have := h.length_le
  omega

/-- WHAT STANDS IN WHAT IS TOLD BY NUMBERS. -/
theorem shred_lies {gap : Int} (hg : 0 < gap) {g : GVal} {nm : Bool} {name : ByteArray} (hw : g.wf) (hk : keysOk g) {L : List GRec} (hL : L = (shredV gap g 0 nm name 0).1) {a b : Nat} (ha : a < cntV g) (hb : b < cntV g) {x y : GRec} (hx : L[a]? = some x) (hy : L[b]? = some y) :
    beginsG (placeG L a) (placeG L b) = (decide (x.st ≤ y.st) && decide (y.en ≤ x.en)) ∧ beginsG (placeG L b) (placeG L a) = (decide (y.st ≤ x.st) && decide (x.en ≤ y.en)) ∧
    (beginsG (placeG L a) (placeG L b) = true ∨ beginsG (placeG L b) (placeG L a) = true ∨ x.en < y.st ∨ y.en < x.st) ∧ ((placeG L a).length : Int) = x.lv := by
  subst hL
  obtain ⟨h, s, hs, hl⟩ := shred_loc hg (nm := nm) (name := name) hw hk ha
  obtain ⟨k, t, ht, hm⟩ := shred_loc hg (nm := nm) (name := name) hw hk hb
  obtain ⟨nx, mx, ex⟩ := hl.rec_
  obtain ⟨ny, my, ey⟩ := hm.rec_
  rw [hx] at ex
  rw [hy] at ey
  have ex := Option.some.inj ex
  have ey := Option.some.inj ey
  generalize placeG (shredV gap g 0 nm name 0).1 a = P at *
  generalize placeG (shredV gap g 0 nm name 0).1 b = Q at *
  obtain ⟨c1, c2, c3⟩ := sub_cmp hg hs hw hk ht
  have b1 := beginsG_iff (sub_canon hs) (sub_canon ht)
  have b2 := beginsG_iff (sub_canon ht) (sub_canon hs)
  subst ex ey
  dsimp only
  refine ⟨?_, ?_, ?_, rfl⟩
  · rw [Bool.eq_iff_iff, b1, c1, Bool.and_eq_true, decide_eq_true_eq, decide_eq_true_eq]
    constructor <;> intro h <;> constructor <;> omega
  · rw [Bool.eq_iff_iff, b2, c2, Bool.and_eq_true, decide_eq_true_eq, decide_eq_true_eq]
    constructor <;> intro h <;> constructor <;> omega
  · rw [b1, b2]
    rcases c3 with c | c | c | c
    · exact .inl c
    · exact .inr (.inl c)
    · exact .inr (.inr (.inl (by omega)))
    · exact .inr (.inr (.inr (by omega)))
end Go.Sy
namespace Go.Sy
open Go.Proofs

/-! ### ShredLies -/

theorem SlAt.front {σ : Snap} {ao : Option Addr} {n cap sz : Nat} {rows : List (List AT)} (h : SlAt σ ao n cap sz rows) {k : Nat} (hk : k ≤ n) : SlAt σ ao k cap sz (rows.take k) := by
  refine ⟨by rw [List.length_take, h.len]; omega, Nat.le_trans hk h.ncap, fun r hr => h.clo r (List.mem_of_mem_take hr), ?_⟩
  rcases h.at_ with h0 | ⟨ad, h1, h2⟩
  · exact .inl (by omega)
  · refine .inr ⟨ad, h1, fun i r j c hr hc => h2 i r j c ?_ hc⟩
    rw [List.getElem?_take] at hr
    split at hr
    · exact hr
    · cases hr

set_option maxRecDepth 100000 in
set_option maxHeartbeats 1000000 in
theorem ShredLies_c (σ : Snap) (g : GVal) (r : List AT) (i k : Int) (hr : RepV σ g r) :
    PlainS Tryd.prog 6 [.agg r, .a (.v (.int .i64 i)), .a (.v (.int .i64 k))] σ (fun v => v = .bool true) := by
  obtain ⟨la, lc, lrows, ma, mc, vrows, rfl, V⟩ := hr.open
  refine enter_p Tryd.func6 rfl rfl (by (repeat' (first | exact trivial | exact vCells_lt _ _ _ _ _ _ | constructor))) fun w => ?_
  (repeat (first | refine cj_seq ?_ | (refine cj_region ?_; refine oj_run TT rfl ?_) | refine oj_then ?_))
  refine oj_callP rfl rfl rfl rfl rfl Tryd.call18 (by (repeat' exact trivial)) (awake11_c σ) fun v hv => ⟨.a .tt, trivial, hv.symm, ?_⟩
  refine oj_run TT rfl ?_
  (repeat (first | refine cj_seq ?_ | (refine cj_region ?_; refine oj_run TT rfl ?_) | refine oj_then ?_))
  refine oj_callP rfl rfl rfl rfl rfl Tryd.call19 (by (repeat' (first | exact trivial | exact vCells_lt _ _ _ _ _ _ | constructor))) (Few_c σ g _ 1500 V.rep (by omega) (by omega)) fun v ⟨fb, hv, hfew⟩ => ⟨.a (.b fb), trivial, hv.symm, ?_⟩
  refine oj_run TT rfl ?_
  (repeat refine oj_then ?_)
  refine cj_if rfl (fun h => ?_) (fun h => ?_)
  · (repeat (first | refine cj_seq ?_ | (refine cj_region ?_; refine oj_run TT rfl ?_) | refine oj_then ?_ | refine cj_ret ?_ | refine nj_then_ret ?_))
    refine nj_ret TT rfl fun β w' _ _ => ?_
    rfl
  have hw : g.weight ≤ 1500 := by
    have := hfew (by simpa using h)
    omega
  (repeat (first | refine cj_seq ?_ | (refine cj_region ?_; refine oj_run TT rfl ?_) | refine cj_skip ?_ | refine nj_then ?_))
  refine oj_callS rfl rfl rfl rfl rfl Tryd.call21 ⟨vCells_lt _ _ _ _ _ _, trivial, trivial⟩ (Shred_s σ g _ 3 V.rep (by omega)) fun v σ1 hle1 ⟨ao, cap, hv, H⟩ => ⟨.tup [.a (.v (.slice ao (shredG g 3).1.length cap)), .a (.v (.int .i64 (shredG g 3).2))], (by (repeat' (first | exact trivial | refine SV.lt_tup ?_ | constructor))), hv.symm, ?_⟩
  rw [shredG_k (by omega) (by omega)] at H ⊢
  by_cases hs : sane g ≠ 0
  · rw [if_pos hs] at H ⊢
    dsimp only at H ⊢
    refine oj_run TT rfl ?_
    (repeat (first | refine cj_seq ?_ | (refine cj_region ?_; refine oj_run TT rfl ?_) | refine oj_then ?_))
    refine oj_split 30 rfl (fun h => ?_) (fun h => absurd (by simpa using h) hs)
    refine oj_run TT rfl ?_
    (repeat (first | refine cj_seq ?_ | (refine cj_region ?_; refine oj_run TT rfl ?_) | refine oj_then ?_ | refine cj_if_t rfl ?_ | refine cj_ret ?_ | refine nj_then_ret ?_))
    refine nj_ret TT rfl fun β w' _ _ => ?_
    rfl
  have hs : sane g = 0 := by simpa using hs
  rw [if_neg (by simp [hs])] at H ⊢
  dsimp only at H ⊢
  have hcnt := shredV_cnt 3 g 0 false emptyS 0 V.rep.wf
  obtain ⟨hlen1, hlen2⟩ := shredV_len 3 g 0 false emptyS 0
  have hfit := shredV_fit 3 g _ 0 false emptyS 0 V.rep (by decide)
  have hpos := cntV_pos g
  have hbd : buildR (shredV 3 g 0 false emptyS 0).1 = (g, 0) := by
    have := buildR_shred (φ := fun x => x) (fun a b _ h => h) (gap := 3) (by omega) (by omega) g V.rep.wf hs (by omega) (by rw [hlen2]; omega)
    rw [stE_id, List.map_id] at this
    exact this
  have hBG : buildG (shredV 3 g 0 false emptyS 0).1 = (g, []) := by
    have := build_shred (fun x => x) 3 g false emptyS 0 V.rep.wf
    rw [stE_id, List.map_id] at this
    exact this
  have hsound : soundG (shredV 3 g 0 false emptyS 0).1 = true := by
    unfold soundG
    rw [hbd]
    rfl
  generalize hLdef : (shredV 3 g 0 false emptyS 0).1 = L at *
  have R : RecsOk L := ⟨by simp only [mostLen]; omega, hfit, fun _ => by rw [hBG]; show g.weight ≤ _; omega⟩
  refine oj_run TT rfl ?_
  (repeat (first | refine cj_seq ?_ | (refine cj_region ?_; refine oj_run TT rfl ?_) | refine oj_then ?_))
  refine oj_split 30 rfl (fun h => absurd h (by decide)) (fun h => ?_)
  refine oj_run TT rfl ?_
  (repeat refine oj_then ?_)
  refine cj_if rfl (fun h => ?_) (fun h => ?_)
  · have := of_decide_eq_true h
    omega
  have hmi := bAnd_le i 65535 (by omega) (by omega)
  have hmk := bAnd_le k 65535 (by omega) (by omega)
  (repeat (first | refine cj_seq ?_ | (refine cj_region ?_; refine oj_run TT rfl ?_) | refine cj_skip ?_ | refine nj_then ?_ | (refine oj_band rfl rfl rfl rfl rfl rfl ?_; refine oj_run TT rfl ?_)))
  generalize bAnd .i64 i 65535 = m1 at hmi ⊢
  refine oj_rem rfl rfl rfl rfl rfl rfl (by omega) ?_
  obtain ⟨a, ha⟩ : ∃ a : Nat, m1.tmod L.length = a := ⟨(m1.tmod L.length).toNat, by
    have := Int.tmod_nonneg (L.length : Int) hmi.1
    omega⟩
  have hal : a < L.length := by
    have := Int.tmod_lt_of_pos m1 (show (0 : Int) < L.length by omega)
    omega
  rw [ha]
  refine oj_run TT rfl ?_
  (repeat (first | refine cj_seq ?_ | (refine cj_region ?_; refine oj_run TT rfl ?_) | refine oj_then ?_ | (refine oj_band rfl rfl rfl rfl rfl rfl ?_; refine oj_run TT rfl ?_)))
  generalize bAnd .i64 k 65535 = m2 at hmk ⊢
  refine oj_rem rfl rfl rfl rfl rfl rfl (by omega) ?_
  obtain ⟨b, hb⟩ : ∃ b : Nat, m2.tmod L.length = b := ⟨(m2.tmod L.length).toNat, by
    have := Int.tmod_nonneg (L.length : Int) hmk.1
    omega⟩
  have hbl : b < L.length := by
    have := Int.tmod_lt_of_pos m2 (show (0 : Int) < L.length by omega)
    omega
  rw [hb]
  refine oj_run TT rfl ?_
  (repeat (first | refine cj_seq ?_ | (refine cj_region ?_; refine oj_run TT rfl ?_) | refine oj_then ?_))
  refine oj_callS rfl rfl rfl rfl rfl Tryd.call27 ⟨trivial, trivial, trivial⟩ (Place_c σ1 L R ao cap H a hal hsound (by omega)) fun v σ2 hle2 ⟨xo, xc, hv, HX⟩ => ⟨.a (.v (.slice xo (placeG L a).length xc)), trivial, hv.symm, ?_⟩
  have H := H.mono hle2
  refine oj_run TT rfl ?_
  (repeat (first | refine cj_seq ?_ | (refine cj_region ?_; refine oj_run TT rfl ?_) | refine oj_then ?_))
  refine oj_callS rfl rfl rfl rfl rfl Tryd.call27 ⟨trivial, trivial, trivial⟩ (Place_c σ2 L R ao cap H b hbl hsound (by omega)) fun v σ3 hle3 ⟨yo, yc, hv, HY⟩ => ⟨.a (.v (.slice yo (placeG L b).length yc)), trivial, hv.symm, ?_⟩
  have H := H.mono hle3
  have HX := HX.mono hle3
  obtain ⟨hin, hout, hor, hlev⟩ := shred_lies (gap := 3) (by omega) V.rep.wf (sane_keys g 0 0 hs) hLdef.symm (a := a) (b := b) (by omega) (by omega) (List.getElem?_eq_getElem hal) (List.getElem?_eq_getElem hbl)
  have hra := recRows_get (List.getElem?_eq_getElem hal)
  have hrb := recRows_get (List.getElem?_eq_getElem hbl)
  have hPl : (placeG L a).length ≤ a + 1 := by unfold placeG; rw [List.length_reverse]; exact upF_len L (a + 1) a
  have hQl : (placeG L b).length ≤ b + 1 := by unfold placeG; rw [List.length_reverse]; exact upF_len L (b + 1) b
  clear hLdef
  generalize placeG L a = P at *
  generalize placeG L b = Q at *
  generalize L[a] = x at *
  generalize L[b] = y at *
  have hbeg : ∀ {σ' : Snap} {P Q : List GStep} {xo yo : Option Addr} {xc yc : Nat}, P.length ≤ 100000 → Q.length ≤ 100000 → SlAt σ' xo P.length xc 3 (stepRows P) → SlAt σ' yo Q.length yc 3 (stepRows Q) → P.length ≤ Q.length →
      PlainS Tryd.prog 28 [.a (.v (.slice xo P.length xc)), .a (.v (.slice yo P.length yc))] σ' (fun v => v = .bool (sameG P (Q.take P.length))) := by
    intro σ' P Q xo yo xc yc h1 h2 hX hY hle
    have e : (Q.take P.length).length = P.length := by rw [List.length_take]; omega
    have hF := hY.front hle
    have e2 : (stepRows Q).take P.length = stepRows (Q.take P.length) := by unfold stepRows; rw [List.map_take]
    rw [e2] at hF
    have := SameSteps_c σ' P (Q.take P.length) h1 (by omega) xo yo xc yc hX (by rw [e]; exact hF)
    rw [e] at this
    exact this
  refine oj_run TT rfl ?_
  refine oj_then ?_
  refine cj_seq ?_
  refine cj_cutN (fun (_ : Unit) => σ3) (fun _ => [(7, .a .tt), (8, .a (.v (.slice ao L.length cap))), (10, .a (.v (.int .i64 a))), (11, .a (.v (.int .i64 b))), (12, .a (.v (.slice xo P.length xc))), (13, .a (.v (.slice yo Q.length yc))), (14, .a (.b (beginsG P Q)))]) (fun _ => []) (fun _ => []) 0 (fun _ => True) ?_ (fun _ _ => ?_)
  · refine cj_region ?_
    refine oj_run TT rfl ?_
    refine oj_split 57 rfl (fun h => ?_) (fun h => ?_)
    · have h : decide ((P.length : Int) ≤ Q.length) = true := h
      have hle := of_decide_eq_true h
      refine oj_run TT rfl ?_
      refine oj_slice_to TT P.length rfl rfl rfl rfl rfl rfl rfl rfl rfl rfl (Nat.le_trans (by omega) HY.ncap) HY.ncap (oj_run TT rfl ?_)
      refine oj_callP rfl rfl rfl rfl rfl Tryd.call28 (by (repeat' (first | exact trivial | constructor))) (hbeg (by omega) (by omega) HX HY (by omega)) fun v hv => ⟨.a (.b (sameG P (Q.take P.length))), trivial, hv.symm, ?_⟩
      refine oj_run TT rfl ?_
      (repeat refine oj_nil ?_)
      refine nj_set 14 (.a (.b (beginsG P Q))) rfl trivial (fun β => by unfold beginsG; rw [h, Bool.true_and]) ?_
      refine nj_again () trivial Nat.zero_lt_one rfl (by (repeat (first | exact trivial | refine And.intro rfl ?_))) (by (repeat (first | exact trivial | refine And.intro rfl ?_))) rfl (by (repeat' (first | exact trivial | constructor))) (by (repeat' exact trivial))
    · have h : decide ((P.length : Int) ≤ Q.length) = false := h
      refine oj_run TT rfl ?_
      (repeat refine oj_nil ?_)
      refine nj_set 14 (.a (.b (beginsG P Q))) rfl trivial (fun β => by unfold beginsG; rw [h, Bool.false_and]; rfl) ?_
      refine nj_again () trivial Nat.zero_lt_one rfl (by (repeat (first | exact trivial | refine And.intro rfl ?_))) (by (repeat (first | exact trivial | refine And.intro rfl ?_))) rfl (by (repeat' (first | exact trivial | constructor))) (by (repeat' exact trivial))
  refine cj_seq ?_
  refine cj_cutN (fun (_ : Unit) => σ3) (fun _ => [(7, .a .tt), (8, .a (.v (.slice ao L.length cap))), (10, .a (.v (.int .i64 a))), (11, .a (.v (.int .i64 b))), (12, .a (.v (.slice xo P.length xc))), (14, .a (.b (beginsG P Q))), (15, .a (.b (beginsG Q P)))]) (fun _ => []) (fun _ => []) 0 (fun _ => True) ?_ (fun _ _ => ?_)
  · refine cj_region ?_
    refine oj_run TT rfl ?_
    refine oj_split 70 rfl (fun h => ?_) (fun h => ?_)
    · have h : decide ((Q.length : Int) ≤ P.length) = true := h
      have hle := of_decide_eq_true h
      refine oj_run TT rfl ?_
      refine oj_slice_to TT Q.length rfl rfl rfl rfl rfl rfl rfl rfl rfl rfl (Nat.le_trans (by omega) HX.ncap) HX.ncap (oj_run TT rfl ?_)
      refine oj_callP rfl rfl rfl rfl rfl Tryd.call28 (by (repeat' (first | exact trivial | constructor))) (hbeg (by omega) (by omega) HY HX (by omega)) fun v hv => ⟨.a (.b (sameG Q (P.take Q.length))), trivial, hv.symm, ?_⟩
      refine oj_run TT rfl ?_
      (repeat refine oj_nil ?_)
      refine nj_set 15 (.a (.b (beginsG Q P))) rfl trivial (fun β => by unfold beginsG; rw [h, Bool.true_and]) ?_
      refine nj_again () trivial Nat.zero_lt_one rfl (by (repeat (first | exact trivial | refine And.intro rfl ?_))) (by (repeat (first | exact trivial | refine And.intro rfl ?_))) rfl (by (repeat' (first | exact trivial | constructor))) (by (repeat' exact trivial))
    · have h : decide ((Q.length : Int) ≤ P.length) = false := h
      refine oj_run TT rfl ?_
      (repeat refine oj_nil ?_)
      refine nj_set 15 (.a (.b (beginsG Q P))) rfl trivial (fun β => by unfold beginsG; rw [h, Bool.false_and]; rfl) ?_
      refine nj_again () trivial Nat.zero_lt_one rfl (by (repeat (first | exact trivial | refine And.intro rfl ?_))) (by (repeat (first | exact trivial | refine And.intro rfl ?_))) rfl (by (repeat' (first | exact trivial | constructor))) (by (repeat' exact trivial))
  rw [hin, hout] at hor
  rw [hin, hout]
  refine cj_seq ?_
  refine cj_cutN (fun (_ : Unit) => σ3) (fun _ => [(7, .a .tt), (8, .a (.v (.slice ao L.length cap))), (10, .a (.v (.int .i64 a))), (11, .a (.v (.int .i64 b))), (12, .a (.v (.slice xo P.length xc))), (14, .a (.b (decide (x.st ≤ y.st) && decide (y.en ≤ x.en)))), (15, .a (.b (decide (y.st ≤ x.st) && decide (x.en ≤ y.en)))), (16, .a (.b (decide (x.st ≤ y.st) && decide (y.en ≤ x.en))))]) (fun _ => []) (fun _ => []) 0 (fun _ => True) ?_ (fun _ _ => ?_)
  · refine cj_draw [(0,.pure),(1,.pure),(2,.pure),(3,.pure),(4,.quiet),(5,.pure),(6,.pure),(7,.pure),(8,.pure),(9,.quiet),(10,.pure),(11,.pure),(12,.pure),(13,.pure),(14,.pure),(15,.pure),(16,.quiet),(17,.pure),(18,.pure),(19,.pure),(20,.pure),(21,.quiet),(22,.pure),(23,.pure),(24,.pure)] mixed (by kernel_rfl) (oj_run TT rfl ?_)
    refine oj_idx TT rfl rfl rfl rfl rfl rfl rfl rfl rfl H (by omega) hra (oj_run TT rfl ?_)
    refine oj_idx TT rfl rfl rfl rfl rfl rfl rfl rfl rfl H (by omega) hrb (oj_run TT rfl ?_)
    refine oj_split 89 rfl (fun h => ?_) (fun h => ?_)
    · have h : decide (x.st ≤ y.st) = true := h
      refine oj_run TT rfl ?_
      refine oj_idx TT rfl rfl rfl rfl rfl rfl rfl rfl rfl H (by omega) hrb (oj_run TT rfl ?_)
      refine oj_idx TT rfl rfl rfl rfl rfl rfl rfl rfl rfl H (by omega) hra (oj_run TT rfl ?_)
      (repeat refine oj_nil ?_)
      refine nj_set 16 (.a (.b (decide (x.st ≤ y.st) && decide (y.en ≤ x.en)))) rfl trivial (fun β => by rw [h, Bool.true_and]) ?_
      refine nj_again () trivial Nat.zero_lt_one rfl (by (repeat (first | exact trivial | refine And.intro rfl ?_))) (by (repeat (first | exact trivial | refine And.intro rfl ?_))) rfl (by (repeat' (first | exact trivial | constructor))) (by (repeat' exact trivial))
    · have h : decide (x.st ≤ y.st) = false := h
      refine oj_run TT rfl ?_
      (repeat refine oj_nil ?_)
      refine nj_set 16 (.a (.b (decide (x.st ≤ y.st) && decide (y.en ≤ x.en)))) rfl trivial (fun β => by rw [h, Bool.false_and]; rfl) ?_
      refine nj_again () trivial Nat.zero_lt_one rfl (by (repeat (first | exact trivial | refine And.intro rfl ?_))) (by (repeat (first | exact trivial | refine And.intro rfl ?_))) rfl (by (repeat' (first | exact trivial | constructor))) (by (repeat' exact trivial))
  refine cj_seq ?_
  refine cj_cutN (fun (_ : Unit) => σ3) (fun _ => [(7, .a .tt), (8, .a (.v (.slice ao L.length cap))), (10, .a (.v (.int .i64 a))), (11, .a (.v (.int .i64 b))), (12, .a (.v (.slice xo P.length xc))), (14, .a (.b (decide (x.st ≤ y.st) && decide (y.en ≤ x.en)))), (15, .a (.b (decide (y.st ≤ x.st) && decide (x.en ≤ y.en)))), (16, .a (.b (decide (x.st ≤ y.st) && decide (y.en ≤ x.en)))), (17, .a (.b (decide (y.st ≤ x.st) && decide (x.en ≤ y.en))))]) (fun _ => []) (fun _ => []) 0 (fun _ => True) ?_ (fun _ _ => ?_)
  · refine cj_draw [(0,.pure),(1,.pure),(2,.pure),(3,.pure),(4,.quiet),(5,.pure),(6,.pure),(7,.pure),(8,.pure),(9,.quiet),(10,.pure),(11,.pure),(12,.pure),(13,.pure),(14,.pure),(15,.pure),(16,.quiet),(17,.pure),(18,.pure),(19,.pure),(20,.pure),(21,.quiet),(22,.pure),(23,.pure),(24,.pure)] mixed (by kernel_rfl) (oj_run TT rfl ?_)
    refine oj_idx TT rfl rfl rfl rfl rfl rfl rfl rfl rfl H (by omega) hrb (oj_run TT rfl ?_)
    refine oj_idx TT rfl rfl rfl rfl rfl rfl rfl rfl rfl H (by omega) hra (oj_run TT rfl ?_)
    refine oj_split 113 rfl (fun h => ?_) (fun h => ?_)
    · have h : decide (y.st ≤ x.st) = true := h
      refine oj_run TT rfl ?_
      refine oj_idx TT rfl rfl rfl rfl rfl rfl rfl rfl rfl H (by omega) hra (oj_run TT rfl ?_)
      refine oj_idx TT rfl rfl rfl rfl rfl rfl rfl rfl rfl H (by omega) hrb (oj_run TT rfl ?_)
      (repeat refine oj_nil ?_)
      refine nj_set 17 (.a (.b (decide (y.st ≤ x.st) && decide (x.en ≤ y.en)))) rfl trivial (fun β => by rw [h, Bool.true_and]) ?_
      refine nj_again () trivial Nat.zero_lt_one rfl (by (repeat (first | exact trivial | refine And.intro rfl ?_))) (by (repeat (first | exact trivial | refine And.intro rfl ?_))) rfl (by (repeat' (first | exact trivial | constructor))) (by (repeat' exact trivial))
    · have h : decide (y.st ≤ x.st) = false := h
      refine oj_run TT rfl ?_
      (repeat refine oj_nil ?_)
      refine nj_set 17 (.a (.b (decide (y.st ≤ x.st) && decide (x.en ≤ y.en)))) rfl trivial (fun β => by rw [h, Bool.false_and]; rfl) ?_
      refine nj_again () trivial Nat.zero_lt_one rfl (by (repeat (first | exact trivial | refine And.intro rfl ?_))) (by (repeat (first | exact trivial | refine And.intro rfl ?_))) rfl (by (repeat' (first | exact trivial | constructor))) (by (repeat' exact trivial))
  generalize (decide (x.st ≤ y.st) && decide (y.en ≤ x.en)) = c1 at *
  generalize (decide (y.st ≤ x.st) && decide (x.en ≤ y.en)) = c2 at *
  refine cj_seq ?_
  refine cj_draw [(0,.pure),(1,.pure),(2,.pure),(3,.pure),(4,.pure),(5,.pure),(6,.pure),(7,.pure),(8,.pure),(9,.pure),(10,.pure),(11,.pure),(12,.pure),(13,.pure),(14,.pure),(15,.pure),(16,.pure),(17,.pure),(18,.pure),(19,.pure),(20,.pure),(21,.quiet),(22,.pure),(23,.pure),(24,.pure),(25,.pure),(26,.quiet),(27,.pure),(28,.pure),(29,.pure),(30,.pure),(31,.pure),(32,.pure),(33,.pure),(34,.quiet),(35,.pure),(36,.pure),(37,.pure),(38,.pure),(39,.quiet),(40,.pure),(41,.pure),(42,.pure),(43,.pure),(44,.pure),(45,.pure),(46,.pure),(47,.pure),(48,.pure),(49,.pure),(50,.quiet),(51,.pure),(52,.pure),(53,.pure)] mixed (by kernel_rfl) (oj_run TT rfl ?_)
  refine oj_split 132 rfl (fun _ => ?_) (fun h => absurd (show (c1 == c1) = false from h) (by simp))
  refine oj_run TT rfl ?_
  refine oj_split 137 rfl (fun _ => ?_) (fun h => absurd (show (c2 == c2) = false from h) (by simp))
  refine oj_run TT rfl ?_
  refine oj_split 139 rfl (fun h1 => ?_) (fun h1 => ?_)
  · refine oj_run TT rfl ?_
    refine oj_idx TT rfl rfl rfl rfl rfl rfl rfl rfl rfl H (by omega) hra (oj_run TT rfl ?_)
    (repeat (first | refine oj_then ?_ | refine cj_ret ?_))
    refine nj_ret TT rfl fun β w' _ _ => ?_
    exact congrArg Value.bool (decide_eq_true hlev)
  · have h1 : c1 = false := h1
    refine oj_run TT rfl ?_
    refine oj_split 142 rfl (fun h2 => ?_) (fun h2 => ?_)
    · refine oj_run TT rfl ?_
      refine oj_idx TT rfl rfl rfl rfl rfl rfl rfl rfl rfl H (by omega) hra (oj_run TT rfl ?_)
      (repeat (first | refine oj_then ?_ | refine cj_ret ?_))
      refine nj_ret TT rfl fun β w' _ _ => ?_
      exact congrArg Value.bool (decide_eq_true hlev)
    · have h2 : c2 = false := h2
      refine oj_run TT rfl ?_
      refine oj_idx TT rfl rfl rfl rfl rfl rfl rfl rfl rfl H (by omega) hra (oj_run TT rfl ?_)
      refine oj_idx TT rfl rfl rfl rfl rfl rfl rfl rfl rfl H (by omega) hrb (oj_run TT rfl ?_)
      refine oj_split 155 rfl (fun h3 => ?_) (fun h3 => ?_)
      · refine oj_run TT rfl ?_
        refine oj_idx TT rfl rfl rfl rfl rfl rfl rfl rfl rfl H (by omega) hra (oj_run TT rfl ?_)
        (repeat (first | refine oj_then ?_ | refine cj_ret ?_))
        refine nj_ret TT rfl fun β w' _ _ => ?_
        exact congrArg Value.bool (decide_eq_true hlev)
      · have h3 := of_decide_eq_false (show decide (x.en < y.st) = false from h3)
        refine oj_run TT rfl ?_
        refine oj_idx TT rfl rfl rfl rfl rfl rfl rfl rfl rfl H (by omega) hrb (oj_run TT rfl ?_)
        refine oj_idx TT rfl rfl rfl rfl rfl rfl rfl rfl rfl H (by omega) hra (oj_run TT rfl ?_)
        refine oj_split 169 rfl (fun h4 => ?_) (fun h4 => ?_)
        · refine oj_run TT rfl ?_
          refine oj_idx TT rfl rfl rfl rfl rfl rfl rfl rfl rfl H (by omega) hra (oj_run TT rfl ?_)
          (repeat (first | refine oj_then ?_ | refine cj_ret ?_))
          refine nj_ret TT rfl fun β w' _ _ => ?_
          exact congrArg Value.bool (decide_eq_true hlev)
        · have h4 := of_decide_eq_false (show decide (y.en < x.st) = false from h4)
          rw [h1, h2] at hor
          rcases hor with h | h | h | h
          · cases h
          · cases h
          · exact absurd h h3
          · exact absurd h h4
end Go.Sy
/- Calls that look at the call's own arrays, and leave them as they are. No program in sight. -/
namespace Go.Sy

theorem ArrSealed.mono {σ σ' : Snap} {E : AE} (h : ArrSealed σ E) (hle : σ.le σ') : ArrSealed σ' E := by
  rcases h with h | ⟨g, h1, h2⟩
  · exact .inl h
  · exact .inr ⟨g, h1, fun j x hx => hle.cell (h2 j x hx)⟩

section
variable {cf : Cf} {hp : HP} {β : Nat → Addr} {w w' : World}

/-- All arrays of one's own, sealed for the moment. -/
theorem StW.sealAll : ∀ {A : List AE} {σ : Snap}, StW cf σ hp A β w → ∃ σ', σ.le σ' ∧ (∀ (i : Nat) E, A[i]? = some E → ArrSealed σ' E) ∧ StW cf σ' hp [] β w
  | [], σ, h => ⟨σ, Snap.le_refl σ, fun i E hE => by simp at hE, h⟩
  | E :: A, σ, h => by
    obtain ⟨σ1, h1, h2, h3⟩ := h.sealArr (i := 0) (E := E) rfl
    obtain ⟨σ2, h4, h5, h6⟩ := StW.sealAll (A := A) h3
    refine ⟨σ2, Snap.le_trans h1 h4, fun i F hF => ?_, h6⟩
    cases i with
    | zero =>
      simp only [List.getElem?_cons_zero, Option.some.injEq] at hF
      subst hF
      exact h2.mono h4
    | succ i => exact h5 i F (by simpa using hF)

theorem ArrOk.weak {σ σ' : Snap} {E : AE} (h : ArrOk cf σ' w E) (hn : ∀ {b}, σ' b = none → σ b = none) : ArrOk cf σ w E := by
  refine ⟨h.1, h.2.imp id ?_⟩
  rintro ⟨g, cur, h3, h4, h5, h6, h7, h8, h9, h10⟩
  exact ⟨g, cur, h3, h4, h5, h6, h7, h8, hn h9, h10⟩

theorem StW.peeked {σ σ1 σ2 : Snap} {A A' : List AE} (h : StW cf σ hp A β w) (h1 : StW cf σ1 hp [] β w) (hle : σ.le σ1) (h' : StW ⟨cf.P, w, σ1, blks [], 0, [], none⟩ σ2 [] A' β0 w') : StW cf σ hp (A ++ A') β w' := by
  have t : StW cf σ2 hp (A' ++ []) β w' := StW.through (A0 := []) (Ar := []) h1 h'
  rw [List.append_nil] at t
  have hold : ∀ b, b < w.heap.size → w'.heap[b]? = w.heap[b]? := fun b hb => h'.fr b hb (by rintro ⟨E, hE, _⟩; cases hE)
  have hle2 : σ.le σ2 := Snap.le_trans hle h'.le
  have hn : ∀ {b}, σ2 b = none → σ b = none := fun hb => Snap.none_of_le hle2 hb
  have hget : ∀ {j : Nat} {E : AE}, (A ++ A')[j]? = some E → (j < A.length ∧ A[j]? = some E) ∨ (A.length ≤ j ∧ A'[j - A.length]? = some E) := by
    intro j E hj
    by_cases hlt : j < A.length
    · rw [List.getElem?_append_left hlt] at hj; exact .inl ⟨hlt, hj⟩
    · rw [List.getElem?_append_right (by omega)] at hj; exact .inr ⟨by omega, hj⟩
  have old : ∀ {j : Nat} {E : AE} {b : Nat}, A[j]? = some E → E.blk = some b → b < w.heap.size := fun hE hb => ((h.arr _ _ hE).lt hb).1
  have new : ∀ {j : Nat} {E : AE} {b : Nat}, A'[j]? = some E → E.blk = some b → w.heap.size ≤ b := by
    intro j E b hE hb
    rcases ((h'.arr _ _ hE).lt hb).2.2 with h1 | ⟨F, hF, _⟩
    · exact h1
    · cases hF
  refine ⟨t.os, t.tape, t.output, t.size, t.fr, fun b o hb => t.sealed b o (hle2 b o hb), h.le, h.grow, fun i e cs hi => ?_, h.ro, h.inj, fun i E hE => ?_, fun i j E F hE hF hij g hg => ?_, fun i j E e cs hE hj => ?_⟩
  · obtain ⟨q1, q2, q3, q4⟩ := t.loc i e cs hi
    exact ⟨q1, q2, hn q3, q4⟩
  · rcases hget hE with ⟨_, hE⟩ | ⟨_, hE⟩
    · exact (h.arr i E hE).keep fun g hg => hold g (old hE hg)
    · exact (t.arr _ E hE).weak hn
  · rcases hget hE with ⟨_, hE⟩ | ⟨_, hE⟩ <;> rcases hget hF with ⟨_, hF⟩ | ⟨_, hF⟩
    · exact h.arrd i j E F hE hF hij g hg
    · intro hc
      have := old hE hg
      have := new hF hc
      omega
    · intro hc
      have := new hE hg
      have := old hF hc
      omega
    · exact t.arrd _ _ E F hE hF (by omega) g hg
  · rcases hget hE with ⟨_, hE⟩ | ⟨_, hE⟩
    · exact h.arrh i j E e cs hE hj
    · exact t.arrh _ j E e cs hE hj
end

theorem FnC.ofPure {P : Program} {f : FuncId} {args : Array Value} {σ : Snap} {Φ : Value → Snap → Prop} (h : PureC P f args σ Φ) : FnC P f args σ [] (fun v σ' A' => Φ v σ' ∧ A' = []) := by
  intro w hw
  refine Calls.mono (h w hw.sealed) fun e w' ⟨v, σ', he, h1, h2, h3, h4⟩ => ?_
  rw [blks_nil]
  refine ⟨v, σ', he, h1, h2, h3, [], ⟨h4, rfl⟩, ?_⟩
  rw [blks_nil]
  exact (StW.start (M := fun _ => False) hw.sealed β0).after h1 h2 h3

section
variable {cf : Cf} {Q : Exit → Act → World → Prop} {σ : Snap} {env : Env} {hp : HP} {A : List AE} {nh : Nat} {it : Item} {rest : List Item}

/-- A call that looks at the call's own arrays; it hands out new ones. -/
theorem oj_peekF {d : Nat} {f : FuncId} {ys : List SV} {Φ : Value → List AE → Prop}
    (hc : callee env it.o.op = some (f, ys)) (hd : it.o.dst = some d) (hg : guardVal it.guard env = some true)
    (hN : Nat.blt d cf.N = true) (htag : canSink it.tag = true) (hcall : ∀ args w, (callFunc f args).run cf.P w = .ok (.enter f args) w) (hlt : LtAll ys)
    (hC : ∀ σ', σ.le σ' → (∀ (i : Nat) E, A[i]? = some E → ArrSealed σ' E) → FnS cf.P f ys σ' [] (fun v _ A' => Φ v A'))
    (k : ∀ v A', Φ v A' → ∃ y : SV, y.lt 0 ∧ y.den β0 = v ∧ OJ cf rest Q σ ((d, y) :: env) hp (A ++ A') nh) : OJ cf (it :: rest) Q σ env hp A nh := by
  refine ⟨fun hb a β ha hex => ?_⟩
  have hN' : d < cf.N := by simpa [Nat.blt_eq] using hN
  have den0 : ∀ {y : SV}, y.lt 0 → y.den β = y.den β0 := fun hy => SV.den_congr (n := 0) (fun i hi => by omega) hy
  have hargs : (ys.map (SV.den β)).toArray = (ys.map (SV.den β0)).toArray := by
    rw [List.map_congr_left fun y hy => den0 (hlt.of y hy)]
  have key : ∀ w, StW cf σ hp A β w → ∀ Q', it.o.wq cf.P a w (fun a' w' => ∃ E' S' : World → Prop, S' w' ∧ (∀ x, S' x → E' x) ∧ RunT cf.P Q rest E' S' a') Q' := by
    intro w hw Q'
    obtain ⟨σ1, hle, hS, hw1⟩ := hw.sealAll
    have hw2 : StW cf σ1 hp ([] ++ []) β w := hw1
    unfold Oper.wq
    rw [callee_ok ha hc hcall]
    simp only [Oper.uponIn]
    rw [hargs]
    refine ⟨fun h => (by cases h), CallsIn.mono (callsIn_FR.2 (hC σ1 hle hS w hw2.handIn)) fun e w' ⟨v, σ', he, h1, h2, h3, A', h4, h5⟩ => ?_⟩
    subst he
    obtain ⟨y, hy, hyv, hk⟩ := k v A' h4
    have hw' := hw.peeked hw1 hle h5
    refine ⟨_, _, hw', fun _ h => h, ?_⟩
    have := hk.run (hb.put (SV.lt_mono (Nat.zero_le _) hy) d) (a.put (some d) (y.den β)) β (ha.put hN' y) ⟨_, hw'⟩
    rw [hd, ← hyv, ← den0 hy]
    exact this
  simp only [RunT]
  rw [if_pos (guardVal_ok ha hg)]
  cases htag' : it.tag with
  | pure => rw [htag'] at htag; cases htag
  | quiet => rw [htag'] at htag; cases htag
  | keep => rw [htag'] at htag; cases htag
  | sink => exact fun w hw => key w hw _
  | free => exact fun w hw => key w hw _

/-- The same, where the answer bears no memory. -/
theorem oj_peekP {d : Nat} {f : FuncId} {ys : List SV} {Φ : Value → Prop}
    (hc : callee env it.o.op = some (f, ys)) (hd : it.o.dst = some d) (hg : guardVal it.guard env = some true)
    (hN : Nat.blt d cf.N = true) (htag : canSink it.tag = true) (hcall : ∀ args w, (callFunc f args).run cf.P w = .ok (.enter f args) w) (hlt : LtAll ys)
    (hC : ∀ σ', σ.le σ' → (∀ (i : Nat) E, A[i]? = some E → ArrSealed σ' E) → PlainS cf.P f ys σ' Φ)
    (k : ∀ v, Φ v → ∃ y : SV, y.lt 0 ∧ y.den β0 = v ∧ OJ cf rest Q σ ((d, y) :: env) hp A nh) : OJ cf (it :: rest) Q σ env hp A nh := by
  refine oj_peekF (Φ := fun v A' => Φ v ∧ A' = []) hc hd hg hN htag hcall hlt (fun σ' h1 h2 => FnC.ofPure (hC σ' h1 h2)) fun v A' ⟨h1, h2⟩ => ?_
  subst h2
  rw [List.append_nil]
  exact k v h1

/-- Two texts, one behind the other. -/
theorem oj_strcat {d : Nat} {x y : Operand} {xt yt : TypeId} {s t : ByteArray} (hop : it.o.op = .binOp .add xt x y yt) (hd : it.o.dst = some d) (hg : guardVal it.guard env = some true) (hN : Nat.blt d cf.N = true)
    (hx : evalO env x = some (.a (.v (.string s)))) (hy : evalO env y = some (.a (.v (.string t)))) (hb : s.size + t.size ≤ 9223372036854775807)
    (hk : OJ cf rest Q σ ((d, .a (.v (.string (s ++ t)))) :: env) hp A nh) : OJ cf (it :: rest) Q σ env hp A nh := by
  refine oj_val (.a (.v (.string (s ++ t)))) hd hg hN trivial (fun _ a β ha w => ?_) hk
  have h1 : a.eval x = .string s := evalO_eval ha hx
  have h2 : a.eval y = .string t := evalO_eval ha hy
  have h3 : ¬ ((s.size + t.size : Nat) : Int) > IntKind.i64.max := by
    show ¬ ((s.size + t.size : Nat) : Int) > 9223372036854775807
    omega
  simp only [execOp, hop, h1, h2]
  rw [Sem.run_bind]
  have : ∀ P : Program, (do eqGuard .add xt x y (.string s) (.string t); binOp .add xt (.string s) (.string t) : Sem Value).run P w = .ok (.string (s ++ t)) w := by
    intro P
    simp only [eqGuard, binOp, Op.stringOp, if_neg h3, Sem.run_bind, Sem.run_pure]
    rfl
  rw [this]
  rfl
end
end Go.Sy
