/- Parts of the proof of CGuideCounts: F25, F32, SyV, F33, Lf, F34, F29, SyT. No conditions. -/
import Derived.Test.YtadnijcgohflhaaDoorM10
import Derived.Scope
namespace Go.Sy
open Go.Proofs

/-! ### ShredLies -/

theorem SlAt.front {σ : Snap} {ao : Option Addr} {n cap sz : Nat} {rows : List (List AT)} (h : SlAt σ ao n cap sz rows) {k : Nat} (hk : k ≤ n) : SlAt σ ao k cap sz (rows.take k) := by
  refine ⟨by rw [List.length_take, h.len]; omega, Nat.le_trans hk h.ncap, fun r hr => h.clo r (List.mem_of_mem_take hr), ?_⟩
  rcases h.at_ with h0 | ⟨ad, h1, h2⟩
  · exact .inl (by omega)
  · refine .inr ⟨ad, h1, fun i r j c hr hc => h2 i r j c ?_ hc⟩
    rw [List.getElem?_take] at hr
    split at hr
    · exact hr
    · cases hr

set_option maxRecDepth 100000 in
set_option maxHeartbeats 1000000 in
theorem ShredLies_c (σ : Snap) (g : GVal) (r : List AT) (i k : Int) (hr : RepV σ g r) :
    PlainS Tryd.prog 6 [.agg r, .a (.v (.int .i64 i)), .a (.v (.int .i64 k))] σ (fun v => v = .bool true) := by
  obtain ⟨la, lc, lrows, ma, mc, vrows, rfl, V⟩ := hr.open
  refine enter_p Tryd.func6 rfl rfl (by (repeat' (first | exact trivial | exact vCells_lt _ _ _ _ _ _ | constructor))) fun w => ?_
  (repeat (first | refine cj_seq ?_ | (refine cj_region ?_; refine oj_run TT rfl ?_) | refine oj_then ?_))
  refine oj_callP rfl rfl rfl rfl rfl Tryd.call18 (by (repeat' exact trivial)) (awake11_c σ) fun v hv => ⟨.a .tt, trivial, hv.symm, ?_⟩
  refine oj_run TT rfl ?_
  (repeat (first | refine cj_seq ?_ | (refine cj_region ?_; refine oj_run TT rfl ?_) | refine oj_then ?_))
  refine oj_callP rfl rfl rfl rfl rfl Tryd.call19 (by (repeat' (first | exact trivial | exact vCells_lt _ _ _ _ _ _ | constructor))) (Few_c σ g _ 1500 V.rep (by omega) (by omega)) fun v ⟨fb, hv, hfew⟩ => ⟨.a (.b fb), trivial, hv.symm, ?_⟩
  refine oj_run TT rfl ?_
  (repeat refine oj_then ?_)
  refine cj_if rfl (fun h => ?_) (fun h => ?_)
  · (repeat (first | refine cj_seq ?_ | (refine cj_region ?_; refine oj_run TT rfl ?_) | refine oj_then ?_ | refine cj_ret ?_ | refine nj_then_ret ?_))
    refine nj_ret TT rfl fun β w' _ _ => ?_
    rfl
  have hw : g.weight ≤ 1500 := by
    have := hfew (by simpa using h)
    omega
  (repeat (first | refine cj_seq ?_ | (refine cj_region ?_; refine oj_run TT rfl ?_) | refine cj_skip ?_ | refine nj_then ?_))
  refine oj_callS rfl rfl rfl rfl rfl Tryd.call21 ⟨vCells_lt _ _ _ _ _ _, trivial, trivial⟩ (Shred_s σ g _ 3 V.rep (by omega)) fun v σ1 hle1 ⟨ao, cap, hv, H⟩ => ⟨.tup [.a (.v (.slice ao (shredG g 3).1.length cap)), .a (.v (.int .i64 (shredG g 3).2))], (by (repeat' (first | exact trivial | refine SV.lt_tup ?_ | constructor))), hv.symm, ?_⟩
  rw [shredG_k (by omega) (by omega)] at H ⊢
  by_cases hs : sane g ≠ 0
  · rw [if_pos hs] at H ⊢
    dsimp only at H ⊢
    refine oj_run TT rfl ?_
    (repeat (first | refine cj_seq ?_ | (refine cj_region ?_; refine oj_run TT rfl ?_) | refine oj_then ?_))
    refine oj_split 30 rfl (fun h => ?_) (fun h => absurd (by simpa using h) hs)
    refine oj_run TT rfl ?_
    (repeat (first | refine cj_seq ?_ | (refine cj_region ?_; refine oj_run TT rfl ?_) | refine oj_then ?_ | refine cj_if_t rfl ?_ | refine cj_ret ?_ | refine nj_then_ret ?_))
    refine nj_ret TT rfl fun β w' _ _ => ?_
    rfl
  have hs : sane g = 0 := by simpa using hs
  rw [if_neg (by simp [hs])] at H ⊢
  dsimp only at H ⊢
  have hcnt := shredV_cnt 3 g 0 false emptyS 0 V.rep.wf
  obtain ⟨hlen1, hlen2⟩ := shredV_len 3 g 0 false emptyS 0
  have hfit := shredV_fit 3 g _ 0 false emptyS 0 V.rep (by decide)
  have hpos := cntV_pos g
  have hbd : buildR (shredV 3 g 0 false emptyS 0).1 = (g, 0) := by
    have := buildR_shred (φ := fun x => x) (fun a b _ h => h) (gap := 3) (by omega) (by omega) g V.rep.wf hs (by omega) (by rw [hlen2]; omega)
    rw [stE_id, List.map_id] at this
    exact this
  have hBG : buildG (shredV 3 g 0 false emptyS 0).1 = (g, []) := by
    have := build_shred (fun x => x) 3 g false emptyS 0 V.rep.wf
    rw [stE_id, List.map_id] at this
    exact this
  have hsound : soundG (shredV 3 g 0 false emptyS 0).1 = true := by
    unfold soundG
    rw [hbd]
    rfl
  generalize hLdef : (shredV 3 g 0 false emptyS 0).1 = L at *
  have R : RecsOk L := ⟨by simp only [mostLen]; omega, hfit, fun _ => by rw [hBG]; show g.weight ≤ _; omega⟩
  refine oj_run TT rfl ?_
  (repeat (first | refine cj_seq ?_ | (refine cj_region ?_; refine oj_run TT rfl ?_) | refine oj_then ?_))
  refine oj_split 30 rfl (fun h => absurd h (by decide)) (fun h => ?_)
  refine oj_run TT rfl ?_
  (repeat refine oj_then ?_)
  refine cj_if rfl (fun h => ?_) (fun h => ?_)
  · have := of_decide_eq_true h
    omega
  have hmi := bAnd_le i 65535 (by omega) (by omega)
  have hmk := bAnd_le k 65535 (by omega) (by omega)
  (repeat (first | refine cj_seq ?_ | (refine cj_region ?_; refine oj_run TT rfl ?_) | refine cj_skip ?_ | refine nj_then ?_ | (refine oj_band rfl rfl rfl rfl rfl rfl ?_; refine oj_run TT rfl ?_)))
  generalize bAnd .i64 i 65535 = m1 at hmi ⊢
  refine oj_rem rfl rfl rfl rfl rfl rfl (by omega) ?_
  obtain ⟨a, ha⟩ : ∃ a : Nat, m1.tmod L.length = a := ⟨(m1.tmod L.length).toNat, by
    have := Int.tmod_nonneg (L.length : Int) hmi.1
    omega⟩
  have hal : a < L.length := by
    have := Int.tmod_lt_of_pos m1 (show (0 : Int) < L.length by omega)
    omega
  rw [ha]
  refine oj_run TT rfl ?_
  (repeat (first | refine cj_seq ?_ | (refine cj_region ?_; refine oj_run TT rfl ?_) | refine oj_then ?_ | (refine oj_band rfl rfl rfl rfl rfl rfl ?_; refine oj_run TT rfl ?_)))
  generalize bAnd .i64 k 65535 = m2 at hmk ⊢
  refine oj_rem rfl rfl rfl rfl rfl rfl (by omega) ?_
  obtain ⟨b, hb⟩ : ∃ b : Nat, m2.tmod L.length = b := ⟨(m2.tmod L.length).toNat, by
    have := Int.tmod_nonneg (L.length : Int) hmk.1
    omega⟩
  have hbl : b < L.length := by
    have := Int.tmod_lt_of_pos m2 (show (0 : Int) < L.length by omega)
    omega
  rw [hb]
  refine oj_run TT rfl ?_
  (repeat (first | refine cj_seq ?_ | (refine cj_region ?_; refine oj_run TT rfl ?_) | refine oj_then ?_))
  refine oj_callS rfl rfl rfl rfl rfl Tryd.call27 ⟨trivial, trivial, trivial⟩ (Place_c σ1 L R ao cap H a hal hsound (by omega)) fun v σ2 hle2 ⟨xo, xc, hv, HX⟩ => ⟨.a (.v (.slice xo (placeG L a).length xc)), trivial, hv.symm, ?_⟩
  have H := H.mono hle2
  refine oj_run TT rfl ?_
  (repeat (first | refine cj_seq ?_ | (refine cj_region ?_; refine oj_run TT rfl ?_) | refine oj_then ?_))
  refine oj_callS rfl rfl rfl rfl rfl Tryd.call27 ⟨trivial, trivial, trivial⟩ (Place_c σ2 L R ao cap H b hbl hsound (by omega)) fun v σ3 hle3 ⟨yo, yc, hv, HY⟩ => ⟨.a (.v (.slice yo (placeG L b).length yc)), trivial, hv.symm, ?_⟩
  have H := H.mono hle3
  have HX := HX.mono hle3
  obtain ⟨hin, hout, hor, hlev⟩ := shred_lies (gap := 3) (by omega) V.rep.wf (sane_keys g 0 0 hs) hLdef.symm (a := a) (b := b) (by omega) (by omega) (List.getElem?_eq_getElem hal) (List.getElem?_eq_getElem hbl)
  have hra := recRows_get (List.getElem?_eq_getElem hal)
  have hrb := recRows_get (List.getElem?_eq_getElem hbl)
  have hPl : (placeG L a).length ≤ a + 1 := by unfold placeG; rw [List.length_reverse]; exact upF_len L (a + 1) a
  have hQl : (placeG L b).length ≤ b + 1 := by unfold placeG; rw [List.length_reverse]; exact upF_len L (b + 1) b
  clear hLdef
  generalize placeG L a = P at *
  generalize placeG L b = Q at *
  generalize L[a] = x at *
  generalize L[b] = y at *
  have hbeg : ∀ {σ' : Snap} {P Q : List GStep} {xo yo : Option Addr} {xc yc : Nat}, P.length ≤ 100000 → Q.length ≤ 100000 → SlAt σ' xo P.length xc 3 (stepRows P) → SlAt σ' yo Q.length yc 3 (stepRows Q) → P.length ≤ Q.length →
      PlainS Tryd.prog 28 [.a (.v (.slice xo P.length xc)), .a (.v (.slice yo P.length yc))] σ' (fun v => v = .bool (sameG P (Q.take P.length))) := by
    intro σ' P Q xo yo xc yc h1 h2 hX hY hle
    have e : (Q.take P.length).length = P.length := by rw [List.length_take]; omega
    have hF := hY.front hle
    have e2 : (stepRows Q).take P.length = stepRows (Q.take P.length) := by unfold stepRows; rw [List.map_take]
    rw [e2] at hF
    have := SameSteps_c σ' P (Q.take P.length) h1 (by omega) xo yo xc yc hX (by rw [e]; exact hF)
    rw [e] at this
    exact this
  refine oj_run TT rfl ?_
  refine oj_then ?_
  refine cj_seq ?_
  refine cj_cutN (fun (_ : Unit) => σ3) (fun _ => [(7, .a .tt), (8, .a (.v (.slice ao L.length cap))), (10, .a (.v (.int .i64 a))), (11, .a (.v (.int .i64 b))), (12, .a (.v (.slice xo P.length xc))), (13, .a (.v (.slice yo Q.length yc))), (14, .a (.b (beginsG P Q)))]) (fun _ => []) (fun _ => []) 0 (fun _ => True) ?_ (fun _ _ => ?_)
  · refine cj_region ?_
    refine oj_run TT rfl ?_
    refine oj_split 57 rfl (fun h => ?_) (fun h => ?_)
    · have h : decide ((P.length : Int) ≤ Q.length) = true := h
      have hle := of_decide_eq_true h
      refine oj_run TT rfl ?_
      refine oj_slice_to TT P.length rfl rfl rfl rfl rfl rfl rfl rfl rfl rfl (Nat.le_trans (by omega) HY.ncap) HY.ncap (oj_run TT rfl ?_)
      refine oj_callP rfl rfl rfl rfl rfl Tryd.call28 (by (repeat' (first | exact trivial | constructor))) (hbeg (by omega) (by omega) HX HY (by omega)) fun v hv => ⟨.a (.b (sameG P (Q.take P.length))), trivial, hv.symm, ?_⟩
      refine oj_run TT rfl ?_
      (repeat refine oj_nil ?_)
      refine nj_set 14 (.a (.b (beginsG P Q))) rfl trivial (fun β => by unfold beginsG; rw [h, Bool.true_and]) ?_
      refine nj_again () trivial Nat.zero_lt_one rfl (by (repeat (first | exact trivial | refine And.intro rfl ?_))) (by (repeat (first | exact trivial | refine And.intro rfl ?_))) rfl (by (repeat' (first | exact trivial | constructor))) (by (repeat' exact trivial))
    · have h : decide ((P.length : Int) ≤ Q.length) = false := h
      refine oj_run TT rfl ?_
      (repeat refine oj_nil ?_)
      refine nj_set 14 (.a (.b (beginsG P Q))) rfl trivial (fun β => by unfold beginsG; rw [h, Bool.false_and]; rfl) ?_
      refine nj_again () trivial Nat.zero_lt_one rfl (by (repeat (first | exact trivial | refine And.intro rfl ?_))) (by (repeat (first | exact trivial | refine And.intro rfl ?_))) rfl (by (repeat' (first | exact trivial | constructor))) (by (repeat' exact trivial))
  refine cj_seq ?_
  refine cj_cutN (fun (_ : Unit) => σ3) (fun _ => [(7, .a .tt), (8, .a (.v (.slice ao L.length cap))), (10, .a (.v (.int .i64 a))), (11, .a (.v (.int .i64 b))), (12, .a (.v (.slice xo P.length xc))), (14, .a (.b (beginsG P Q))), (15, .a (.b (beginsG Q P)))]) (fun _ => []) (fun _ => []) 0 (fun _ => True) ?_ (fun _ _ => ?_)
  · refine cj_region ?_
    refine oj_run TT rfl ?_
    refine oj_split 70 rfl (fun h => ?_) (fun h => ?_)
    · have h : decide ((Q.length : Int) ≤ P.length) = true := h
      have hle := of_decide_eq_true h
      refine oj_run TT rfl ?_
      refine oj_slice_to TT Q.length rfl rfl rfl rfl rfl rfl rfl rfl rfl rfl (Nat.le_trans (by omega) HX.ncap) HX.ncap (oj_run TT rfl ?_)
      refine oj_callP rfl rfl rfl rfl rfl Tryd.call28 (by (repeat' (first | exact trivial | constructor))) (hbeg (by omega) (by omega) HY HX (by omega)) fun v hv => ⟨.a (.b (sameG Q (P.take Q.length))), trivial, hv.symm, ?_⟩
      refine oj_run TT rfl ?_
      (repeat refine oj_nil ?_)
      refine nj_set 15 (.a (.b (beginsG Q P))) rfl trivial (fun β => by unfold beginsG; rw [h, Bool.true_and]) ?_
      refine nj_again () trivial Nat.zero_lt_one rfl (by (repeat (first | exact trivial | refine And.intro rfl ?_))) (by (repeat (first | exact trivial | refine And.intro rfl ?_))) rfl (by (repeat' (first | exact trivial | constructor))) (by (repeat' exact trivial))
    · have h : decide ((Q.length : Int) ≤ P.length) = false := h
      refine oj_run TT rfl ?_
      (repeat refine oj_nil ?_)
      refine nj_set 15 (.a (.b (beginsG Q P))) rfl trivial (fun β => by unfold beginsG; rw [h, Bool.false_and]; rfl) ?_
      refine nj_again () trivial Nat.zero_lt_one rfl (by (repeat (first | exact trivial | refine And.intro rfl ?_))) (by (repeat (first | exact trivial | refine And.intro rfl ?_))) rfl (by (repeat' (first | exact trivial | constructor))) (by (repeat' exact trivial))
  rw [hin, hout] at hor
  rw [hin, hout]
  refine cj_seq ?_
  refine cj_cutN (fun (_ : Unit) => σ3) (fun _ => [(7, .a .tt), (8, .a (.v (.slice ao L.length cap))), (10, .a (.v (.int .i64 a))), (11, .a (.v (.int .i64 b))), (12, .a (.v (.slice xo P.length xc))), (14, .a (.b (decide (x.st ≤ y.st) && decide (y.en ≤ x.en)))), (15, .a (.b (decide (y.st ≤ x.st) && decide (x.en ≤ y.en)))), (16, .a (.b (decide (x.st ≤ y.st) && decide (y.en ≤ x.en))))]) (fun _ => []) (fun _ => []) 0 (fun _ => True) ?_ (fun _ _ => ?_)
  · refine cj_draw [(0,.pure),(1,.pure),(2,.pure),(3,.pure),(4,.quiet),(5,.pure),(6,.pure),(7,.pure),(8,.pure),(9,.quiet),(10,.pure),(11,.pure),(12,.pure),(13,.pure),(14,.pure),(15,.pure),(16,.quiet),(17,.pure),(18,.pure),(19,.pure),(20,.pure),(21,.quiet),(22,.pure),(23,.pure),(24,.pure)] mixed (by kernel_rfl) (oj_run TT rfl ?_)
    refine oj_idx TT rfl rfl rfl rfl rfl rfl rfl rfl rfl H (by omega) hra (oj_run TT rfl ?_)
    refine oj_idx TT rfl rfl rfl rfl rfl rfl rfl rfl rfl H (by omega) hrb (oj_run TT rfl ?_)
    refine oj_split 89 rfl (fun h => ?_) (fun h => ?_)
    · have h : decide (x.st ≤ y.st) = true := h
      refine oj_run TT rfl ?_
      refine oj_idx TT rfl rfl rfl rfl rfl rfl rfl rfl rfl H (by omega) hrb (oj_run TT rfl ?_)
      refine oj_idx TT rfl rfl rfl rfl rfl rfl rfl rfl rfl H (by omega) hra (oj_run TT rfl ?_)
      (repeat refine oj_nil ?_)
      refine nj_set 16 (.a (.b (decide (x.st ≤ y.st) && decide (y.en ≤ x.en)))) rfl trivial (fun β => by rw [h, Bool.true_and]) ?_
      refine nj_again () trivial Nat.zero_lt_one rfl (by (repeat (first | exact trivial | refine And.intro rfl ?_))) (by (repeat (first | exact trivial | refine And.intro rfl ?_))) rfl (by (repeat' (first | exact trivial | constructor))) (by (repeat' exact trivial))
    · have h : decide (x.st ≤ y.st) = false := h
      refine oj_run TT rfl ?_
      (repeat refine oj_nil ?_)
      refine nj_set 16 (.a (.b (decide (x.st ≤ y.st) && decide (y.en ≤ x.en)))) rfl trivial (fun β => by rw [h, Bool.false_and]; rfl) ?_
      refine nj_again () trivial Nat.zero_lt_one rfl (by (repeat (first | exact trivial | refine And.intro rfl ?_))) (by (repeat (first | exact trivial | refine And.intro rfl ?_))) rfl (by (repeat' (first | exact trivial | constructor))) (by (repeat' exact trivial))
  refine cj_seq ?_
  refine cj_cutN (fun (_ : Unit) => σ3) (fun _ => [(7, .a .tt), (8, .a (.v (.slice ao L.length cap))), (10, .a (.v (.int .i64 a))), (11, .a (.v (.int .i64 b))), (12, .a (.v (.slice xo P.length xc))), (14, .a (.b (decide (x.st ≤ y.st) && decide (y.en ≤ x.en)))), (15, .a (.b (decide (y.st ≤ x.st) && decide (x.en ≤ y.en)))), (16, .a (.b (decide (x.st ≤ y.st) && decide (y.en ≤ x.en)))), (17, .a (.b (decide (y.st ≤ x.st) && decide (x.en ≤ y.en))))]) (fun _ => []) (fun _ => []) 0 (fun _ => True) ?_ (fun _ _ => ?_)
  · refine cj_draw [(0,.pure),(1,.pure),(2,.pure),(3,.pure),(4,.quiet),(5,.pure),(6,.pure),(7,.pure),(8,.pure),(9,.quiet),(10,.pure),(11,.pure),(12,.pure),(13,.pure),(14,.pure),(15,.pure),(16,.quiet),(17,.pure),(18,.pure),(19,.pure),(20,.pure),(21,.quiet),(22,.pure),(23,.pure),(24,.pure)] mixed (by kernel_rfl) (oj_run TT rfl ?_)
    refine oj_idx TT rfl rfl rfl rfl rfl rfl rfl rfl rfl H (by omega) hrb (oj_run TT rfl ?_)
    refine oj_idx TT rfl rfl rfl rfl rfl rfl rfl rfl rfl H (by omega) hra (oj_run TT rfl ?_)
    refine oj_split 113 rfl (fun h => ?_) (fun h => ?_)
    · have h : decide (y.st ≤ x.st) = true := h
      refine oj_run TT rfl ?_
      refine oj_idx TT rfl rfl rfl rfl rfl rfl rfl rfl rfl H (by omega) hra (oj_run TT rfl ?_)
      refine oj_idx TT rfl rfl rfl rfl rfl rfl rfl rfl rfl H (by omega) hrb (oj_run TT rfl ?_)
      (repeat refine oj_nil ?_)
      refine nj_set 17 (.a (.b (decide (y.st ≤ x.st) && decide (x.en ≤ y.en)))) rfl trivial (fun β => by rw [h, Bool.true_and]) ?_
      refine nj_again () trivial Nat.zero_lt_one rfl (by (repeat (first | exact trivial | refine And.intro rfl ?_))) (by (repeat (first | exact trivial | refine And.intro rfl ?_))) rfl (by (repeat' (first | exact trivial | constructor))) (by (repeat' exact trivial))
    · have h : decide (y.st ≤ x.st) = false := h
      refine oj_run TT rfl ?_
      (repeat refine oj_nil ?_)
      refine nj_set 17 (.a (.b (decide (y.st ≤ x.st) && decide (x.en ≤ y.en)))) rfl trivial (fun β => by rw [h, Bool.false_and]; rfl) ?_
      refine nj_again () trivial Nat.zero_lt_one rfl (by (repeat (first | exact trivial | refine And.intro rfl ?_))) (by (repeat (first | exact trivial | refine And.intro rfl ?_))) rfl (by (repeat' (first | exact trivial | constructor))) (by (repeat' exact trivial))
  generalize (decide (x.st ≤ y.st) && decide (y.en ≤ x.en)) = c1 at *
  generalize (decide (y.st ≤ x.st) && decide (x.en ≤ y.en)) = c2 at *
  refine cj_seq ?_
  refine cj_draw [(0,.pure),(1,.pure),(2,.pure),(3,.pure),(4,.pure),(5,.pure),(6,.pure),(7,.pure),(8,.pure),(9,.pure),(10,.pure),(11,.pure),(12,.pure),(13,.pure),(14,.pure),(15,.pure),(16,.pure),(17,.pure),(18,.pure),(19,.pure),(20,.pure),(21,.quiet),(22,.pure),(23,.pure),(24,.pure),(25,.pure),(26,.quiet),(27,.pure),(28,.pure),(29,.pure),(30,.pure),(31,.pure),(32,.pure),(33,.pure),(34,.quiet),(35,.pure),(36,.pure),(37,.pure),(38,.pure),(39,.quiet),(40,.pure),(41,.pure),(42,.pure),(43,.pure),(44,.pure),(45,.pure),(46,.pure),(47,.pure),(48,.pure),(49,.pure),(50,.quiet),(51,.pure),(52,.pure),(53,.pure)] mixed (by kernel_rfl) (oj_run TT rfl ?_)
  refine oj_split 132 rfl (fun _ => ?_) (fun h => absurd (show (c1 == c1) = false from h) (by simp))
  refine oj_run TT rfl ?_
  refine oj_split 137 rfl (fun _ => ?_) (fun h => absurd (show (c2 == c2) = false from h) (by simp))
  refine oj_run TT rfl ?_
  refine oj_split 139 rfl (fun h1 => ?_) (fun h1 => ?_)
  · refine oj_run TT rfl ?_
    refine oj_idx TT rfl rfl rfl rfl rfl rfl rfl rfl rfl H (by omega) hra (oj_run TT rfl ?_)
    (repeat (first | refine oj_then ?_ | refine cj_ret ?_))
    refine nj_ret TT rfl fun β w' _ _ => ?_
    exact congrArg Value.bool (decide_eq_true hlev)
  · have h1 : c1 = false := h1
    refine oj_run TT rfl ?_
    refine oj_split 142 rfl (fun h2 => ?_) (fun h2 => ?_)
    · refine oj_run TT rfl ?_
      refine oj_idx TT rfl rfl rfl rfl rfl rfl rfl rfl rfl H (by omega) hra (oj_run TT rfl ?_)
      (repeat (first | refine oj_then ?_ | refine cj_ret ?_))
      refine nj_ret TT rfl fun β w' _ _ => ?_
      exact congrArg Value.bool (decide_eq_true hlev)
    · have h2 : c2 = false := h2
      refine oj_run TT rfl ?_
      refine oj_idx TT rfl rfl rfl rfl rfl rfl rfl rfl rfl H (by omega) hra (oj_run TT rfl ?_)
      refine oj_idx TT rfl rfl rfl rfl rfl rfl rfl rfl rfl H (by omega) hrb (oj_run TT rfl ?_)
      refine oj_split 155 rfl (fun h3 => ?_) (fun h3 => ?_)
      · refine oj_run TT rfl ?_
        refine oj_idx TT rfl rfl rfl rfl rfl rfl rfl rfl rfl H (by omega) hra (oj_run TT rfl ?_)
        (repeat (first | refine oj_then ?_ | refine cj_ret ?_))
        refine nj_ret TT rfl fun β w' _ _ => ?_
        exact congrArg Value.bool (decide_eq_true hlev)
      · have h3 := of_decide_eq_false (show decide (x.en < y.st) = false from h3)
        refine oj_run TT rfl ?_
        refine oj_idx TT rfl rfl rfl rfl rfl rfl rfl rfl rfl H (by omega) hrb (oj_run TT rfl ?_)
        refine oj_idx TT rfl rfl rfl rfl rfl rfl rfl rfl rfl H (by omega) hra (oj_run TT rfl ?_)
        refine oj_split 169 rfl (fun h4 => ?_) (fun h4 => ?_)
        · refine oj_run TT rfl ?_
          refine oj_idx TT rfl rfl rfl rfl rfl rfl rfl rfl rfl H (by omega) hra (oj_run TT rfl ?_)
          (repeat (first | refine oj_then ?_ | refine cj_ret ?_))
          refine nj_ret TT rfl fun β w' _ _ => ?_
          exact congrArg Value.bool (decide_eq_true hlev)
        · have h4 := of_decide_eq_false (show decide (y.en < x.st) = false from h4)
          rw [h1, h2] at hor
          rcases hor with h | h | h | h
          · cases h
          · cases h
          · exact absurd h h3
          · exact absurd h h4
end Go.Sy
namespace Go.Sy
open Go.Proofs

/-! ### place, Get, step, At -/

set_option maxRecDepth 100000 in
set_option maxHeartbeats 1000000 in
theorem IndexFuncM_c (σ : Snap) (ks : List ByteArray) (rs : List (List AT)) (hkr : ks.length = rs.length) (hr8 : ∀ r ∈ rs, ∀ c ∈ r, c.lt 0) (hl : ks.length ≤ 140737488355328) (ao : Option Addr) (cap : Nat) (H : SlAt σ ao ks.length cap 9 (keyRows ks rs)) (f : FuncId) (caps : List PT) (hcap : LtAll (caps.map ptSV))
    (hcall : ∀ args w, (callFunc f args).run Tryd.prog w = .ok (.enter f args) w) (q : ByteArray → Bool) (hq : ∀ k r, r ∈ rs → PlainS Tryd.prog f (.agg (keyRow k r) :: caps.map ptSV) σ (fun v => v = .bool (q k))) (hlt : (SV.a (.fn (.func f) caps)).lt 0) :
    PlainS Tryd.prog 134 [.a (.v (.slice ao ks.length cap)), .a (.fn (.func f) caps)] σ (fun x => x = .int .i64 (findG q ks 0)) := by
  refine enter_p Tryd.func134 rfl rfl ⟨trivial, hlt, trivial⟩ fun w => ?_
  (repeat (first | refine cj_seq ?_ | (refine cj_region ?_; refine oj_run TT rfl ?_) | refine oj_then ?_ | refine cj_block ?_))
  refine cj_loop (fun (_ : Nat) => σ) (fun k => [(0, .a (.v (.slice ao ks.length cap))), (1, .a (.fn (.func f) caps)), (7, .a (.v (.int .i64 ks.length))), (8, .a (.v (.int .i64 k)))]) (fun _ => []) (fun _ => []) 0
    (fun k => k ≤ ks.length ∧ findG q (ks.drop k) k = findG q ks 0) (fun k => ks.length - k) 0 ⟨Nat.zero_le _, rfl⟩ rfl (by (repeat (first | exact trivial | refine And.intro rfl ?_))) (by (repeat (first | exact trivial | refine And.intro rfl ?_))) rfl ⟨trivial, hlt, trivial, trivial, trivial⟩ trivial fun k ⟨hk, hp⟩ => ?_
  (repeat (first | refine cj_seq ?_ | (refine cj_region ?_; refine oj_run TT rfl ?_) | refine oj_then ?_))
  refine cj_if rfl (fun h => ?_) (fun h => ?_)
  rotate_left
  · have hk0 : k = ks.length := by have := of_decide_eq_false h; omega
    subst hk0
    rw [List.drop_length] at hp
    (repeat (first | refine cj_seq ?_ | (refine cj_region ?_; refine oj_run TT rfl ?_) | refine oj_then ?_ | refine cj_exit ?_ | refine cj_ret ?_ | refine nj_then ?_ | refine nj_then_exit ?_ | refine nj_block_out ?_))
    refine nj_ret TT rfl fun β w' _ _ => ?_
    rw [← hp]
    rfl
  have hkl : k < ks.length := by have := of_decide_eq_true h; omega
  have hkl' : k < rs.length := by omega
  have hra := keyRows_get (List.getElem?_eq_getElem hkl) (List.getElem?_eq_getElem hkl')
  have hqx := hq ks[k] rs[k] (List.getElem_mem hkl')
  have hrlt := hr8 rs[k] (List.getElem_mem hkl')
  have hr9 := H.clo _ (List.mem_of_getElem? hra)
  rw [List.drop_eq_getElem_cons hkl, findG] at hp
  generalize ks[k] = x at *
  generalize rs[k] = r at *
  obtain ⟨hr91, hr92⟩ := hr9
  have hrl : r.length = 8 := by simpa [keyRow] using hr91
  match r, hrl with
  | [c0, c1, c2, c3, c4, c5, c6, c7], _ =>
  (repeat (first | refine cj_seq ?_ | (refine cj_region ?_; refine oj_run TT rfl ?_) | refine oj_then ?_ | refine cj_skip ?_ | refine cj_block ?_ | refine nj_then ?_))
  refine oj_idx TT rfl rfl rfl rfl rfl rfl rfl rfl rfl H (by omega) hra (oj_run TT rfl ?_)
  refine oj_callP (ys := .agg (keyRow x [c0, c1, c2, c3, c4, c5, c6, c7]) :: caps.map ptSV) rfl rfl rfl rfl rfl hcall ⟨hr92, hcap⟩ hqx fun v hv => ⟨.a (.b (q x)), trivial, hv.symm, ?_⟩
  refine oj_run TT rfl ?_
  (repeat refine oj_then ?_)
  refine cj_if rfl (fun h => ?_) (fun h => ?_)
  · rw [h] at hp
    (repeat (first | refine cj_seq ?_ | (refine cj_region ?_; refine oj_run TT rfl ?_) | refine oj_then ?_ | refine cj_ret ?_ | refine nj_then_ret ?_ | refine nj_block_ret ?_))
    refine nj_ret TT rfl fun β w' _ _ => ?_
    rw [← hp]
    rfl
  · rw [h] at hp
    (repeat (first | (refine cj_region ?_; refine oj_run TT rfl ?_) | refine oj_nil ?_ | refine cj_skip ?_ | refine nj_then ?_ | refine nj_block ?_ | (refine oj_add rfl rfl rfl rfl rfl rfl (by omega) ?_; refine oj_run TT rfl ?_)))
    refine nj_again (k + 1) ⟨hkl, hp⟩ (by omega) rfl (by (repeat (first | exact trivial | refine And.intro rfl ?_))) (by (repeat (first | exact trivial | refine And.intro rfl ?_))) rfl ⟨trivial, hlt, trivial, trivial, trivial⟩ trivial

set_option maxRecDepth 100000 in
set_option maxHeartbeats 1000000 in
theorem place1_c (σ : Snap) (k : ByteArray) (r : List AT) (hr : r.length = 8) (hlt : ∀ c ∈ r, c.lt 0) (hone : r.all AT.one = true) (key : ByteArray) (g : Nat) (hg : σ.cell ⟨g, 0, none⟩ = some (.string key)) :
    PlainS Tryd.prog 135 (.agg (keyRow k r) :: [ptrTo g].map ptSV) σ (fun v => v = .bool (decide (k = key))) := by
  match r, hr with
  | [c0, c1, c2, c3, c4, c5, c6, c7], _ =>
  refine enter_p Tryd.func135 rfl rfl ⟨fun c hc => (by cases hc with | head => trivial | tail _ h => exact hlt c h), trivial, trivial⟩ fun w => ?_
  (repeat (first | refine cj_seq ?_ | (refine cj_region ?_; refine oj_run TT rfl ?_) | refine oj_then ?_))
  refine oj_ldS (c := .v (.string key)) TT rfl rfl rfl rfl rfl rfl rfl rfl hg trivial (oj_run TT rfl ?_)
  (repeat (first | refine oj_then ?_ | refine cj_ret ?_))
  refine nj_ret TT rfl fun β w' _ _ => ?_
  rfl

def placeM (ks : List ByteArray) (key : ByteArray) : Int := findG (fun k => decide (k = key)) ks 0

set_option maxRecDepth 100000 in
set_option maxHeartbeats 1000000 in
theorem placeM_c (σ : Snap) (ks : List ByteArray) (gs : List GVal) (rs : List (List AT)) (hkg : ks.length = gs.length) (R : RepL σ gs rs) (hl : ks.length ≤ 140737488355328) (ao : Option Addr) (cap : Nat) (H : SlAt σ ao ks.length cap 9 (keyRows ks rs)) (key : ByteArray) :
    PlainS Tryd.prog 114 [.a (.v (.slice ao ks.length cap)), .a (.v (.string key))] σ (fun v => v = .int .i64 (placeM ks key)) := by
  refine enter_p Tryd.func114 rfl rfl (by (repeat' (first | exact trivial | constructor))) fun w => ?_
  (repeat (first | refine cj_seq ?_ | (refine cj_region ?_; refine oj_run TT rfl ?_) | refine oj_then ?_))
  refine oj_own 0 1 1 rfl (by (repeat' (first | exact trivial | refine AllLt.of ?_ | constructor))) rfl (by decide) fun g => ?_
  refine oj_seal 0 rfl rfl rfl fun σ1 hle1 hS => ?_
  have hg : σ1.cell ⟨g, 0, none⟩ = some (.string key) := by
    rcases hS with ⟨h, _⟩ | ⟨g', h1, h2⟩
    · cases h
    · obtain rfl : g = g' := by simpa using h1
      exact h2 0 _ rfl
  have hall : ∀ r ∈ rs, r.length = 8 ∧ (∀ c ∈ r, c.lt 0) ∧ r.all AT.one = true := fun r hr => R.rows r hr
  refine oj_callP rfl rfl rfl rfl rfl Tryd.call134 ⟨trivial, fn_lt1 (.func 135) g 0, trivial⟩ (IndexFuncM_c σ1 ks rs (by rw [hkg, R.len]) (fun r hr => (hall r hr).2.1) hl ao cap (H.mono hle1) 135 [ptrTo g] ⟨trivial, trivial⟩ Tryd.call135 (fun k => decide (k = key)) (fun k r hr => place1_c σ1 k r (hall r hr).1 (hall r hr).2.1 (hall r hr).2.2 key g hg) (fn_lt1 (.func 135) g 0)) fun v hv => ⟨.a (.v (.int .i64 (placeM ks key))), trivial, hv.symm, ?_⟩
  refine oj_run TT rfl ?_
  (repeat (first | refine oj_then ?_ | refine cj_ret ?_))
  refine nj_ret TT rfl fun β w' _ _ => ?_
  rfl

def nullV : GVal := .mk 0 false dec0 emptyS [] [] []
theorem nullV_rep (σ : Snap) : RepV σ nullV (vCells nullV none 0 none 0) := by
  simp only [nullV, RepV]
  exact ⟨none, 0, [], none, 0, [], rfl, SlAt.nil _ _ _ _, rfl, rfl, SlAt.nil _ _ _ _, rfl, by decide, by decide, by decide, by decide, fun k h => (by cases h)⟩
/-- A value that may be, and whether it is. -/
def OptV (σ : Snap) (o : Option GVal) (v : Value) : Prop := ∃ r, v = .tuple #[.agg (r.map (AT.den β0)).toArray, .bool o.isSome] ∧ RepV σ (o.getD nullV) r

def getG (g : GVal) (key : ByteArray) : Option GVal := if g.kind = 5 then (if placeM g.ks key < 0 then none else g.vs[(placeM g.ks key).toNat]?) else none

set_option maxRecDepth 100000 in
set_option maxHeartbeats 1000000 in
theorem Get_c (σ : Snap) (g : GVal) (la : Option Addr) (lc : Nat) (lrows : List (List AT)) (ma : Option Addr) (mc : Nat) (vrows : List (List AT)) (V : VAt σ g la lc lrows ma mc vrows) (key : ByteArray) :
    PlainS Tryd.prog 124 [.agg (vCells g la lc ma mc), .a (.v (.string key))] σ (OptV σ (getG g key)) := by
  have hkl := V.kl
  simp only [mostLen] at hkl
  have hbd : -1 ≤ placeM g.ks key ∧ placeM g.ks key < g.ks.length := by
    have := findG_bd (fun k => decide (k = key)) g.ks 0
    unfold placeM
    omega
  have hgd : getG g key = if g.kind = 5 then (if placeM g.ks key < 0 then none else g.vs[(placeM g.ks key).toNat]?) else none := rfl
  refine enter_p Tryd.func124 rfl rfl (by (repeat' (first | exact trivial | exact vCells_lt _ _ _ _ _ _ | constructor))) fun w => ?_
  (repeat (first | refine cj_seq ?_ | (refine cj_region ?_; refine oj_run TT rfl ?_) | refine oj_then ?_))
  refine oj_callP rfl rfl rfl rfl rfl Tryd.call114 (by (repeat' (first | exact trivial | constructor))) (placeM_c σ g.ks g.vs vrows V.kv V.v (by omega) ma mc V.M key) fun v hv => ⟨.a (.v (.int .i64 (placeM g.ks key))), trivial, hv.symm, ?_⟩
  refine oj_run TT rfl ?_
  (repeat (first | refine cj_seq ?_ | (refine cj_region ?_; refine oj_run TT rfl ?_) | refine oj_then ?_))
  refine oj_split 14 rfl (fun h => ?_) (fun h => ?_)
  · have h : ¬ g.kind = 5 := by simpa using (show (!decide (g.kind = 5)) = true from h)
    rw [if_neg h] at hgd
    refine oj_run TT rfl ?_
    (repeat (first | refine cj_seq ?_ | (refine cj_region ?_; refine oj_run TT rfl ?_) | refine oj_then ?_ | refine cj_if_t rfl ?_ | refine cj_ret ?_ | refine nj_then_ret ?_))
    refine nj_ret TT rfl fun β w' _ _ => ?_
    rw [hgd]
    exact ⟨vCells nullV none 0 none 0, rfl, nullV_rep σ⟩
  have h : g.kind = 5 := by simpa using (show (!decide (g.kind = 5)) = false from h)
  rw [if_pos h] at hgd
  refine oj_run TT rfl ?_
  (repeat refine oj_then ?_)
  refine cj_if rfl (fun h => ?_) (fun h => ?_)
  · rw [if_pos (of_decide_eq_true h)] at hgd
    (repeat (first | refine cj_seq ?_ | (refine cj_region ?_; refine oj_run TT rfl ?_) | refine oj_then ?_ | refine cj_ret ?_ | refine nj_then_ret ?_))
    refine nj_ret TT rfl fun β w' _ _ => ?_
    rw [hgd]
    exact ⟨vCells nullV none 0 none 0, rfl, nullV_rep σ⟩
  have h := of_decide_eq_false h
  rw [if_neg h] at hgd
  obtain ⟨j, hj⟩ : ∃ j : Nat, placeM g.ks key = j := ⟨(placeM g.ks key).toNat, by omega⟩
  rw [hj] at hgd ⊢
  rw [Int.toNat_natCast] at hgd
  have hjk : j < g.ks.length := by omega
  have hjv : j < g.vs.length := by rw [← V.kv]; exact hjk
  obtain ⟨r, hr, hrep⟩ := V.v.get (List.getElem?_eq_getElem hjv)
  have hrow := keyRows_get (List.getElem?_eq_getElem hjk) hr
  rw [List.getElem?_eq_getElem hjv] at hgd
  generalize g.vs[j] = x at *
  generalize g.ks[j] = kk at *
  obtain ⟨la', lc', lrows', ma', mc', vrows', rfl, V'⟩ := hrep.open
  (repeat (first | refine cj_seq ?_ | (refine cj_region ?_; refine oj_run TT rfl ?_) | refine cj_skip ?_ | refine nj_then ?_))
  refine oj_idx TT rfl rfl rfl rfl rfl rfl rfl rfl rfl V.M (by omega) hrow (oj_run TT rfl ?_)
  (repeat (first | refine oj_then ?_ | refine cj_ret ?_))
  refine nj_ret TT rfl fun β w' _ _ => ?_
  rw [hgd]
  exact ⟨vCells x la' lc' ma' mc', rfl, V'.rep⟩

def stepV (g : GVal) (s : GStep) : Option GVal := if s.named then getG g s.key else if g.kind = 4 then (if s.at_ < 0 then none else if s.at_ < g.l.length then g.l[s.at_.toNat]? else none) else none

set_option maxRecDepth 100000 in
set_option maxHeartbeats 1000000 in
theorem step_c (σ : Snap) (g : GVal) (la : Option Addr) (lc : Nat) (lrows : List (List AT)) (ma : Option Addr) (mc : Nat) (vrows : List (List AT)) (V : VAt σ g la lc lrows ma mc vrows) (s : GStep) :
    PlainS Tryd.prog 90 [.agg (vCells g la lc ma mc), .agg (stepCells s)] σ (OptV σ (stepV g s)) := by
  have hgd : stepV g s = if s.named then getG g s.key else if g.kind = 4 then (if s.at_ < 0 then none else if s.at_ < g.l.length then g.l[s.at_.toNat]? else none) else none := rfl
  refine enter_p Tryd.func90 rfl rfl ⟨vCells_lt _ _ _ _ _ _, (by unfold stepCells; (repeat' (first | exact trivial | refine AllLt.of ?_ | constructor))), trivial⟩ fun w => ?_
  (repeat (first | refine cj_seq ?_ | (refine cj_region ?_; refine oj_run TT rfl ?_) | refine oj_then ?_ | refine cj_block ?_))
  refine cj_if rfl (fun h => ?_) (fun h => ?_)
  · rw [if_pos h] at hgd
    (repeat (first | refine cj_seq ?_ | (refine cj_region ?_; refine oj_run TT rfl ?_)))
    refine oj_callP rfl rfl rfl rfl rfl Tryd.call124 (by (repeat' (first | exact trivial | exact vCells_lt _ _ _ _ _ _ | constructor))) (Get_c σ g la lc lrows ma mc vrows V s.key) fun v ⟨r, hv, hr⟩ => ?_
    obtain ⟨la', lc', lrows', ma', mc', vrows', rfl, V'⟩ := hr.open
    refine ⟨.tup [.agg (vCells ((getG g s.key).getD nullV) la' lc' ma' mc'), .a (.b (getG g s.key).isSome)], (by (repeat' (first | exact trivial | exact vCells_lt _ _ _ _ _ _ | refine SV.lt_tup ?_ | constructor))), hv.symm, ?_⟩
    refine oj_run TT rfl ?_
    (repeat (first | refine oj_then ?_ | refine cj_ret ?_ | refine nj_then_ret ?_ | refine nj_block_ret ?_))
    refine nj_ret TT rfl fun β w' _ _ => ?_
    rw [hgd]
    exact ⟨vCells ((getG g s.key).getD nullV) la' lc' ma' mc', rfl, V'.rep⟩
  rw [h, if_neg (by simp)] at hgd
  (repeat (first | refine cj_seq ?_ | (refine cj_region ?_; refine oj_run TT rfl ?_)))
  refine oj_split 19 rfl (fun h1 => ?_) (fun h1 => ?_)
  · have h1 : ¬ g.kind = 4 := by simpa using (show (!decide (g.kind = 4)) = true from h1)
    rw [if_neg h1] at hgd
    refine oj_run TT rfl ?_
    (repeat (first | refine cj_seq ?_ | (refine cj_region ?_; refine oj_run TT rfl ?_) | refine oj_then ?_ | refine cj_if_t rfl ?_ | refine cj_ret ?_ | refine nj_then_ret ?_ | refine nj_block_ret ?_))
    refine nj_ret TT rfl fun β w' _ _ => ?_
    rw [hgd]
    exact ⟨vCells nullV none 0 none 0, rfl, nullV_rep σ⟩
  have h1 : g.kind = 4 := by simpa using (show (!decide (g.kind = 4)) = false from h1)
  rw [if_pos h1] at hgd
  refine oj_run TT rfl ?_
  refine oj_split 24 rfl (fun h2 => ?_) (fun h2 => ?_)
  · have h2 : decide (s.at_ < 0) = true := h2
    rw [if_pos (of_decide_eq_true h2)] at hgd
    refine oj_run TT rfl ?_
    (repeat (first | refine cj_seq ?_ | (refine cj_region ?_; refine oj_run TT rfl ?_) | refine oj_then ?_ | refine cj_if_t rfl ?_ | refine cj_ret ?_ | refine nj_then_ret ?_ | refine nj_block_ret ?_))
    refine nj_ret TT rfl fun β w' _ _ => ?_
    rw [hgd]
    exact ⟨vCells nullV none 0 none 0, rfl, nullV_rep σ⟩
  have h2 : decide (s.at_ < 0) = false := h2
  have h2 := of_decide_eq_false h2
  rw [if_neg h2] at hgd
  refine oj_run TT rfl ?_
  (repeat refine oj_then ?_)
  refine cj_if rfl (fun h3 => ?_) (fun h3 => ?_)
  · have h3 := of_decide_eq_true h3
    rw [if_neg (by omega)] at hgd
    (repeat (first | refine cj_seq ?_ | (refine cj_region ?_; refine oj_run TT rfl ?_) | refine oj_then ?_ | refine cj_ret ?_ | refine nj_then_ret ?_ | refine nj_block_ret ?_))
    refine nj_ret TT rfl fun β w' _ _ => ?_
    rw [hgd]
    exact ⟨vCells nullV none 0 none 0, rfl, nullV_rep σ⟩
  have h3 := of_decide_eq_false h3
  rw [if_pos (by omega)] at hgd
  obtain ⟨j, hj⟩ : ∃ j : Nat, s.at_ = j := ⟨s.at_.toNat, by omega⟩
  rw [hj] at hgd ⊢
  rw [Int.toNat_natCast] at hgd
  have hjl : j < g.l.length := by omega
  obtain ⟨r, hr, hrep⟩ := V.l.get (List.getElem?_eq_getElem hjl)
  rw [List.getElem?_eq_getElem hjl] at hgd
  generalize g.l[j] = x at *
  obtain ⟨la', lc', lrows', ma', mc', vrows', rfl, V'⟩ := hrep.open
  (repeat (first | refine cj_seq ?_ | (refine cj_region ?_; refine oj_run TT rfl ?_) | refine cj_skip ?_ | refine nj_then ?_ | refine nj_block ?_))
  refine oj_idx TT rfl rfl rfl rfl rfl rfl rfl rfl rfl V.L (by omega) hr (oj_run TT rfl ?_)
  (repeat (first | refine oj_then ?_ | refine cj_ret ?_))
  refine nj_ret TT rfl fun β w' _ _ => ?_
  rw [hgd]
  exact ⟨vCells x la' lc' ma' mc', rfl, V'.rep⟩

def atV : GVal → List GStep → Option GVal
  | g, [] => some g
  | g, s :: l => (stepV g s).bind fun x => atV x l

def zV : List AT := [.v (.int .i64 0), .ff, .ff, .v (.string ⟨#[]⟩), .v (.int .i64 0), .v (.string ⟨#[]⟩), .v (.slice none 0 0), .v (.slice none 0 0)]
structure AtS where
  k : Nat
  ok : Bool
  g : GVal
  la : Option Addr
  lc : Nat
  ma : Option Addr
  mc : Nat

set_option maxRecDepth 100000 in
set_option maxHeartbeats 1000000 in
theorem At_c (σ : Snap) (g : GVal) (la : Option Addr) (lc : Nat) (lrows : List (List AT)) (ma : Option Addr) (mc : Nat) (vrows : List (List AT)) (V : VAt σ g la lc lrows ma mc vrows) (l : List GStep) (hl : l.length ≤ 1000000) (so : Option Addr) (sc : Nat) (S : SlAt σ so l.length sc 3 (stepRows l)) :
    PlainS Tryd.prog 45 [.agg (vCells g la lc ma mc), .a (.v (.slice so l.length sc))] σ (OptV σ (atV g l)) := by
  refine enter_p Tryd.func45 rfl rfl (by (repeat' (first | exact trivial | exact vCells_lt _ _ _ _ _ _ | constructor))) fun w => ?_
  (repeat (first | refine cj_seq ?_ | (refine cj_region ?_; refine oj_run TT rfl ?_) | refine oj_then ?_ | refine cj_block ?_))
  refine cj_set 6 (.a (.b true)) rfl trivial (fun β => rfl) ?_
  refine cj_loop (fun (_ : AtS) => σ) (fun t => [(1, .a (.v (.slice so l.length sc))), (2, .a (.p 0 0)), (4, .a (.p 1 0)), (6, .a (.b t.ok)), (7, .a (.v (.int .i64 (t.k : Nat))))]) (fun t => [(0, .loc 27, vCells t.g t.la t.lc t.ma t.mc), (1, .loc 27, zV)]) (fun _ => []) 2
    (fun t => t.k ≤ l.length ∧ (∃ lr vr, VAt σ t.g t.la t.lc lr t.ma t.mc vr) ∧ (if t.ok then atV t.g (l.drop t.k) = atV g l else t.g = nullV ∧ atV g l = none)) (fun t => l.length - t.k) ⟨0, true, g, la, lc, ma, mc⟩ ⟨Nat.zero_le _, ⟨_, _, V⟩, rfl⟩ rfl (by (repeat (first | exact trivial | refine And.intro rfl ?_))) (by (repeat (first | exact trivial | refine And.intro rfl ?_))) rfl (by (repeat' (first | exact trivial | exact Nat.le_of_ble_eq_true rfl | constructor))) (by (repeat' (first | exact trivial | exact Nat.le_of_ble_eq_true rfl | exact vCells_lt _ _ _ _ _ _ | refine AllLt.of ?_ | constructor))) fun ⟨k, ok, g', la', lc', ma', mc'⟩ ⟨hk, ⟨lr, vr, V'⟩, hp⟩ => ?_
  dsimp only at hk V' hp ⊢
  have hend : (k = l.length ∨ ok = false) → OptV σ (atV g l) (.tuple #[.agg ((vCells g' la' lc' ma' mc').map (AT.den β0)).toArray, .bool ok]) := by
    intro h
    cases ok with
    | true =>
      have hk0 : k = l.length := by simpa using h
      rw [if_pos rfl, hk0, List.drop_length, atV] at hp
      rw [← hp]
      exact ⟨_, rfl, V'.rep⟩
    | false =>
      rw [if_neg (by simp)] at hp
      rw [hp.2]
      refine ⟨_, rfl, ?_⟩
      have := V'.rep
      rw [hp.1] at this ⊢
      exact this
  (repeat (first | refine cj_seq ?_ | (refine cj_region ?_; refine oj_run TT rfl ?_)))
  refine oj_split 12 rfl (fun h => ?_) (fun h => ?_)
  rotate_left
  · have hk0 : k = l.length := by have := of_decide_eq_false (show decide ((k : Int) < l.length) = false from h); omega
    refine oj_run TT rfl ?_
    (repeat (first | refine cj_seq ?_ | (refine cj_region ?_; refine oj_run TT rfl ?_) | refine oj_then ?_ | refine cj_if_f rfl ?_ | refine cj_exit ?_ | refine cj_ret ?_ | refine nj_then ?_ | refine nj_then_exit ?_ | refine nj_block_out ?_))
    refine nj_ret TT rfl fun β w' _ _ => ?_
    exact hend (.inl hk0)
  have hkl : k < l.length := by have := of_decide_eq_true (show decide ((k : Int) < l.length) = true from h); omega
  refine oj_run TT rfl ?_
  (repeat refine oj_then ?_)
  refine cj_if rfl (fun h => ?_) (fun h => ?_)
  rotate_left
  · (repeat (first | refine cj_seq ?_ | (refine cj_region ?_; refine oj_run TT rfl ?_) | refine oj_then ?_ | refine cj_exit ?_ | refine cj_ret ?_ | refine nj_then ?_ | refine nj_then_exit ?_ | refine nj_block_out ?_))
    refine nj_ret TT rfl fun β w' _ _ => ?_
    exact hend (.inr h)
  have hrow := stepRows_get (List.getElem?_eq_getElem hkl)
  rw [if_pos h, List.drop_eq_getElem_cons hkl, atV] at hp
  generalize l[k] = s at *
  clear hend
  (repeat (first | refine cj_seq ?_ | refine cj_skip ?_ | refine cj_block ?_ | refine nj_then ?_))
  refine cj_draw [(0,.quiet),(1,.pure),(2,.pure),(3,.pure),(4,.quiet),(5,.keep),(6,.pure),(7,.pure),(8,.pure),(9,.sink),(10,.pure)] mixed (by kernel_rfl) (oj_run TT rfl ?_)
  refine oj_idx TT rfl rfl rfl rfl rfl rfl rfl rfl rfl S (by omega) hrow (oj_run TT rfl ?_)
  refine oj_callP rfl rfl rfl rfl rfl Tryd.call90 (by (repeat' (first | exact trivial | exact vCells_lt _ _ _ _ _ _ | refine AllLt.of ?_ | constructor))) (step_c σ g' la' lc' lr ma' mc' vr V' s) fun v ⟨r, hv, hr⟩ => ?_
  obtain ⟨la2, lc2, lr2, ma2, mc2, vr2, rfl, V2⟩ := hr.open
  refine ⟨.tup [.agg (vCells ((stepV g' s).getD nullV) la2 lc2 ma2 mc2), .a (.b (stepV g' s).isSome)], (by (repeat' (first | exact trivial | exact vCells_lt _ _ _ _ _ _ | refine SV.lt_tup ?_ | constructor))), hv.symm, ?_⟩
  refine oj_run TT rfl ?_
  (repeat (first | (refine cj_region ?_; refine oj_run TT rfl ?_) | refine oj_nil ?_ | refine nj_then ?_ | refine nj_block ?_ | (refine oj_add rfl rfl rfl rfl rfl rfl (by omega) ?_; refine oj_run TT rfl ?_)))
  refine nj_again (⟨k + 1, (stepV g' s).isSome, (stepV g' s).getD nullV, la2, lc2, ma2, mc2⟩ : AtS) ⟨hkl, ⟨_, _, V2⟩, ?_⟩ (by dsimp only; omega) rfl (by (repeat (first | exact trivial | refine And.intro rfl ?_))) (by (repeat (first | exact trivial | refine And.intro rfl ?_))) rfl (by (repeat' (first | exact trivial | exact Nat.le_of_ble_eq_true rfl | constructor))) (by (repeat' (first | exact trivial | exact Nat.le_of_ble_eq_true rfl | exact vCells_lt _ _ _ _ _ _ | refine AllLt.of ?_ | constructor)))
  dsimp only
  cases hst : stepV g' s with
  | none =>
    rw [hst, Option.bind_none] at hp
    exact ⟨rfl, hp.symm⟩
  | some x =>
    rw [hst, Option.bind_some] at hp
    exact hp
end Go.Sy
/- Scopes that nobody jumps in. No program in sight. -/
namespace Go.Sy
section
variable {cf : Cf} {Q : Exit → Act → World → Prop} {σ : Snap} {env : Env} {hp : HP} {A : List AE} {nh : Nat}
theorem cj_scope {c : Code} (hrd : cf.rd = none) (h : CJ cf c (Exit.noGoto Q) σ env hp A nh) : CJ cf (.scope c) Q σ env hp A nh := by
  refine ⟨fun hb a β w ha hw => ?_⟩
  have := h.run hb a β w ha hw
  rw [hrd] at this ⊢
  exact (wpIn_wide (n := 0)).2 (wp_scope_straight (wpR_none this))
theorem nj_ng_n (h : NJ cf .normal Q σ env hp A nh) : NJ cf .normal (Exit.noGoto Q) σ env hp A nh := ⟨h.run⟩
theorem nj_ng_ret (h : NJ cf .ret Q σ env hp A nh) : NJ cf .ret (Exit.noGoto Q) σ env hp A nh := ⟨h.run⟩
theorem nj_ng_exit {id : Nat} (h : NJ cf (.exit id) Q σ env hp A nh) : NJ cf (.exit id) (Exit.noGoto Q) σ env hp A nh := ⟨h.run⟩
end
end Go.Sy
namespace Go.Sy
open Go.Proofs

/-! ### Last -/

def lastG (L : List GRec) (i : Nat) : Int := (runK L ((L[i]?.map GRec.en).getD 0) (i + 1) : Nat) - 1

set_option maxRecDepth 100000 in
set_option maxHeartbeats 1000000 in
theorem Last_c (σ : Snap) (L : List GRec) (R : RecsOk L) (ao : Option Addr) (cap : Nat) (H : SlAt σ ao L.length cap 11 (recRows L)) (i : Nat) (hi : i < L.length) (hs : soundG L = true) :
    PlainS Tryd.prog 40 [.a (.v (.slice ao L.length cap)), .a (.v (.int .i64 i))] σ (fun v => v = .int .i64 (lastG L i)) := by
  have hat : atG L i = true := by
    unfold atG
    rw [hs]
    simp
    omega
  have hlg : lastG L i = (runK L L[i].en (i + 1) : Nat) - 1 := by unfold lastG; rw [List.getElem?_eq_getElem hi]; rfl
  rw [hlg]
  refine enter_p Tryd.func40 rfl rfl (by (repeat' (first | exact trivial | constructor))) fun w => ?_
  (repeat (first | refine cj_seq ?_ | (refine cj_region ?_; refine oj_run TT rfl ?_) | refine oj_then ?_))
  refine oj_callP rfl rfl rfl rfl rfl Tryd.call76 (by (repeat' (first | exact trivial | constructor))) (at_c σ L R ao cap H i) fun v hv => ⟨.a .tt, trivial, by rw [hv, hat]; rfl, ?_⟩
  refine oj_run TT rfl ?_
  (repeat (first | refine cj_seq ?_ | (refine cj_region ?_; refine oj_run TT rfl ?_) | refine oj_then ?_ | refine cj_if_f rfl ?_ | refine cj_skip ?_ | refine nj_then ?_))
  refine oj_callP rfl rfl rfl rfl rfl Tryd.call88 (by (repeat' (first | exact trivial | constructor))) (last_c σ L R.len ao cap H i hi) fun v hv => ⟨.a (.v (.int .i64 ((runK L L[i].en (i + 1) : Nat) - 1))), trivial, hv.symm, ?_⟩
  refine oj_run TT rfl ?_
  (repeat (first | refine oj_then ?_ | refine cj_ret ?_))
  refine nj_ret TT rfl fun β w' _ _ => ?_
  rfl

/-! ### Find -/

/-- Is the n-th kid, record r, what a step asks for? -/
def fitsR (s : GStep) (n : Nat) (r : GRec) : Bool := (s.named && r.nm && decide (r.name = s.key)) || (!s.named && !r.nm && decide ((n : Int) = s.at_))
/-- The first of the kids from n on that is asked for. -/
def firstR (L : List GRec) (s : GStep) : List Nat → Nat → Option Nat
  | [], _ => none
  | k :: ks, n => match L[k]? with
    | some r => if fitsR s n r then some k else firstR L s ks (n + 1)
    | none => none
def findR (L : List GRec) : Nat → List GStep → Int
  | i, [] => i
  | i, s :: l => match firstR L s (kidsG L i) 0 with
    | some k => findR L k l
    | none => -1
theorem firstR_mem {L : List GRec} {s : GStep} : ∀ {ks : List Nat} {n k : Nat}, firstR L s ks n = some k → k < L.length
  | x :: ks, n, k, h => by
    unfold firstR at h
    cases hx : L[x]? with
    | none => rw [hx] at h; cases h
    | some r =>
      rw [hx] at h
      dsimp only at h
      split at h
      · obtain rfl := Option.some.inj h
        exact (List.getElem?_eq_some_iff.1 hx).1
      · exact firstR_mem h

theorem kidsF_lt (L : List GRec) (en : Int) : ∀ n k, ∀ m ∈ kidsF L en n k, m < L.length
  | 0, _, m, h => by simp [kidsF] at h
  | n + 1, k, m, h => by
    unfold kidsF at h
    split at h
    · rename_i hk
      split at h
      · cases h with
        | head => exact hk
        | tail _ h => exact kidsF_lt L en n _ m h
      · cases h
    · cases h

set_option maxRecDepth 100000 in
set_option maxHeartbeats 1000000 in
theorem Find_c (σ : Snap) (L : List GRec) (R : RecsOk L) (ao : Option Addr) (cap : Nat) (H : SlAt σ ao L.length cap 11 (recRows L)) (hs : soundG L = true) (hL : L.length ≤ 100000) (hpos : 0 < L.length) (l : List GStep) (hl : l.length ≤ 1000000) (so : Option Addr) (sc : Nat) (S : SlAt σ so l.length sc 3 (stepRows l)) :
    PlainS Tryd.prog 43 [.a (.v (.slice ao L.length cap)), .a (.v (.slice so l.length sc))] σ (fun v => v = .int .i64 (findR L 0 l)) := by
  refine enter_p Tryd.func43 rfl rfl (by (repeat' (first | exact trivial | constructor))) fun w => ?_
  (repeat (first | refine cj_seq ?_ | (refine cj_region ?_; refine oj_run TT rfl ?_) | refine oj_then ?_ | refine cj_scope rfl ?_))
  refine oj_callP rfl rfl rfl rfl rfl Tryd.call24 (by (repeat' (first | exact trivial | constructor))) (Sound_c σ L R.len R.fit R.bw ao cap H) fun v hv => ⟨.a .tt, trivial, by rw [hv, hs]; rfl, ?_⟩
  refine oj_run TT rfl ?_
  (repeat (first | refine cj_seq ?_ | (refine cj_region ?_; refine oj_run TT rfl ?_) | refine oj_then ?_ | refine cj_if_f rfl ?_ | refine cj_skip ?_ | refine cj_block ?_ | refine nj_then ?_ | refine cj_label ?_))
  refine cj_loop2 (fun (s : Snap) (_ : Nat × Nat) => s) (fun _ t => [(0, .a (.v (.slice ao L.length cap))), (1, .a (.v (.slice so l.length sc))), (5, .a (.v (.int .i64 (t.2 : Nat)))), (13, .a (.v (.slice so l.length sc))), (14, .a (.v (.int .i64 l.length))), (15, .a (.v (.int .i64 (t.1 : Nat))))]) (fun _ _ => []) (fun _ _ => []) 0
    (fun s t => σ.le s ∧ t.1 ≤ l.length ∧ t.2 < L.length ∧ findR L t.2 (l.drop t.1) = findR L 0 l) (fun _ t => l.length - t.1) σ (0, 0) ⟨Snap.le_refl _, Nat.zero_le _, hpos, rfl⟩ rfl (by (repeat (first | exact trivial | refine And.intro rfl ?_))) (by (repeat (first | exact trivial | refine And.intro rfl ?_))) rfl (by (repeat' (first | exact trivial | constructor))) (by (repeat' exact trivial)) fun s ⟨k, i⟩ ⟨hle, hk, hi, hp⟩ => ?_
  dsimp only at hk hi hp ⊢
  (repeat (first | refine cj_seq ?_ | (refine cj_region ?_; refine oj_run TT rfl ?_) | refine oj_then ?_))
  refine cj_if rfl (fun h => ?_) (fun h => ?_)
  rotate_left
  · have hk0 : k = l.length := by have := of_decide_eq_false h; omega
    rw [hk0, List.drop_length, findR] at hp
    (repeat (first | refine cj_seq ?_ | (refine cj_region ?_; refine oj_run TT rfl ?_) | refine oj_then ?_ | refine cj_exit ?_ | refine cj_ret ?_ | refine nj_then ?_ | refine nj_then_exit ?_ | refine nj_block_out ?_ | refine nj_ng_ret ?_))
    refine nj_ret TT rfl fun β w' _ _ => ?_
    rw [← hp]
    rfl
  have hkl : k < l.length := by have := of_decide_eq_true h; omega
  have H := H.mono hle
  have S := S.mono hle
  have hrow := stepRows_get (List.getElem?_eq_getElem hkl)
  rw [List.drop_eq_getElem_cons hkl, findR] at hp
  generalize l[k] = st at *
  (repeat (first | refine cj_seq ?_ | (refine cj_region ?_; refine oj_run TT rfl ?_) | refine cj_skip ?_ | refine cj_block ?_ | refine nj_then ?_))
  refine oj_idx TT rfl rfl rfl rfl rfl rfl rfl rfl rfl S (by omega) hrow (oj_run TT rfl ?_)
  (repeat (first | refine cj_seq ?_ | (refine cj_region ?_; refine oj_run TT rfl ?_) | refine oj_then ?_))
  refine oj_callS rfl rfl rfl rfl rfl Tryd.call77 ⟨trivial, trivial, trivial⟩ (kids_c s L hL ao cap H i hi) fun v σ1 hle1 ⟨oo, oc, hv, HK⟩ => ⟨.a (.v (.slice oo (kidsG L i).length oc)), trivial, hv.symm, ?_⟩
  have H := H.mono hle1
  have hklt : ∀ m ∈ kidsG L i, m < L.length := fun m hm => kidsF_lt L _ _ _ m hm
  have hklen : (kidsG L i).length ≤ L.length := by
    unfold kidsG
    exact Nat.le_trans (kidsF_len L _ L.length (i + 1)) (Nat.sub_le _ _)
  generalize kidsG L i = ks at *
  refine oj_run TT rfl ?_
  (repeat (first | refine oj_then ?_ | refine cj_block ?_))
  refine cj_loop (fun (_ : Nat) => σ1) (fun n => [(0, .a (.v (.slice ao L.length cap))), (1, .a (.v (.slice so l.length sc))), (7, .a (.p 1 0)), (13, .a (.v (.slice so l.length sc))), (14, .a (.v (.int .i64 l.length))), (15, .a (.v (.int .i64 (k : Nat)))), (21, .a (.v (.slice oo ks.length oc))), (22, .a (.v (.int .i64 ks.length))), (23, .a (.v (.int .i64 (n : Nat))))])
    (fun _ => [(1, .loc 129, stepCells st)]) (fun _ => []) 2 (fun n => n ≤ ks.length ∧ firstR L st (ks.drop n) n = firstR L st ks 0) (fun n => ks.length - n) 0 ⟨Nat.zero_le _, rfl⟩ rfl (by (repeat (first | exact trivial | refine And.intro rfl ?_))) (by (repeat (first | exact trivial | refine And.intro rfl ?_))) rfl (by (repeat' (first | exact trivial | exact Nat.le_of_ble_eq_true rfl | constructor))) (by (repeat' (first | exact trivial | exact Nat.le_of_ble_eq_true rfl | refine AllLt.of ?_ | constructor))) fun n ⟨hn, hf⟩ => ?_
  (repeat (first | refine cj_seq ?_ | (refine cj_region ?_; refine oj_run TT rfl ?_) | refine oj_then ?_))
  refine cj_if rfl (fun h => ?_) (fun h => ?_)
  rotate_left
  · have hn0 : n = ks.length := by have := of_decide_eq_false h; omega
    rw [hn0, List.drop_length, firstR] at hf
    rw [← hf] at hp
    (repeat (first | refine cj_seq ?_ | (refine cj_region ?_; refine oj_run TT rfl ?_) | refine oj_then ?_ | refine cj_exit ?_ | refine cj_ret ?_ | refine nj_then ?_ | refine nj_then_exit ?_ | refine nj_then_ret ?_ | refine nj_block_ret ?_ | refine nj_block_out ?_ | refine nj_ng_ret ?_))
    refine nj_ret TT rfl fun β w' _ _ => ?_
    rw [← hp]
    rfl
  have hnl : n < ks.length := by have := of_decide_eq_true h; omega
  have hkr : (kidRows ks)[n]? = some [.v (.int .i64 (ks[n] : Nat))] := by unfold kidRows; rw [List.getElem?_map, List.getElem?_eq_getElem hnl]; rfl
  have hml := hklt ks[n] (List.getElem_mem hnl)
  obtain ⟨r, hr⟩ : ∃ r, L[ks[n]]? = some r := ⟨_, List.getElem?_eq_getElem hml⟩
  have hrec := recRows_get hr
  rw [List.drop_eq_getElem_cons hnl, firstR, hr] at hf
  dsimp only at hf
  generalize ks[n] = m at *
  (repeat (first | refine cj_seq ?_ | (refine cj_region ?_; refine oj_run TT rfl ?_) | refine cj_skip ?_ | refine cj_block ?_ | refine nj_then ?_))
  refine oj_idx TT rfl rfl rfl rfl rfl rfl rfl rfl rfl HK (by omega) hkr (oj_run TT rfl ?_)
  (repeat (first | refine cj_seq ?_ | refine oj_then ?_))
  refine cj_cutN (fun (_ : Unit) => σ1) (fun _ => [(0, .a (.v (.slice ao L.length cap))), (1, .a (.v (.slice so l.length sc))), (7, .a (.p 1 0)), (9, .a (.v (.int .i64 (m : Nat)))), (13, .a (.v (.slice so l.length sc))), (14, .a (.v (.int .i64 l.length))), (15, .a (.v (.int .i64 (k : Nat)))), (21, .a (.v (.slice oo ks.length oc))), (22, .a (.v (.int .i64 ks.length))), (23, .a (.v (.int .i64 (n : Nat)))), (65, .a (.b (fitsR st n r)))])
    (fun _ => [(1, .loc 129, stepCells st)]) (fun _ => []) 2 (fun _ => True) ?_ (fun _ _ => ?_)
  · refine cj_draw [(0,.pure),(1,.quiet),(2,.pure),(3,.pure),(4,.pure),(5,.pure),(6,.pure),(7,.quiet),(8,.pure),(9,.pure),(10,.pure),(11,.pure),(12,.pure),(13,.pure),(14,.quiet),(15,.pure),(16,.quiet),(17,.pure),(18,.pure),(19,.pure),(20,.pure),(21,.quiet),(22,.pure),(23,.pure),(24,.pure),(25,.pure),(26,.pure),(27,.pure),(28,.quiet),(29,.pure),(30,.pure),(31,.pure),(32,.pure),(33,.pure),(34,.quiet),(35,.pure),(36,.pure),(37,.pure)] mixed (by kernel_rfl) (oj_run TT rfl ?_)
    refine oj_split 30 rfl (fun h1 => ?_) (fun h1 => ?_)
    · have h1 : st.named = true := h1
      refine oj_run TT rfl ?_
      refine oj_idx TT rfl rfl rfl rfl rfl rfl rfl rfl rfl H (by omega) hrec (oj_run TT rfl ?_)
      refine oj_split 37 rfl (fun h2 => ?_) (fun h2 => ?_)
      · have h2 : r.nm = true := h2
        refine oj_run TT rfl ?_
        refine oj_idx TT rfl rfl rfl rfl rfl rfl rfl rfl rfl H (by omega) hrec (oj_run TT rfl ?_)
        refine oj_split 47 rfl (fun h3 => ?_) (fun h3 => ?_)
        · have h3 : decide (r.name = st.key) = true := h3
          refine oj_run TT rfl ?_
          (repeat refine oj_nil ?_)
          refine nj_set 65 (.a (.b (fitsR st n r))) rfl trivial (fun β => by unfold fitsR; rw [h1, h2, h3]; rfl) ?_
          refine nj_again () trivial Nat.zero_lt_one rfl (by (repeat (first | exact trivial | refine And.intro rfl ?_))) (by (repeat (first | exact trivial | refine And.intro rfl ?_))) rfl (by (repeat' (first | exact trivial | exact Nat.le_of_ble_eq_true rfl | constructor))) (by (repeat' (first | exact trivial | exact Nat.le_of_ble_eq_true rfl | refine AllLt.of ?_ | constructor)))
        · have h3 : decide (r.name = st.key) = false := h3
          refine oj_run TT rfl ?_
          refine oj_split 51 rfl (fun h4 => absurd (show (!st.named) = true from h4) (by rw [h1]; decide)) (fun _ => ?_)
          refine oj_run TT rfl ?_
          (repeat refine oj_nil ?_)
          refine nj_set 65 (.a (.b (fitsR st n r))) rfl trivial (fun β => by unfold fitsR; rw [h1, h2, h3]; rfl) ?_
          refine nj_again () trivial Nat.zero_lt_one rfl (by (repeat (first | exact trivial | refine And.intro rfl ?_))) (by (repeat (first | exact trivial | refine And.intro rfl ?_))) rfl (by (repeat' (first | exact trivial | exact Nat.le_of_ble_eq_true rfl | constructor))) (by (repeat' (first | exact trivial | exact Nat.le_of_ble_eq_true rfl | refine AllLt.of ?_ | constructor)))
      · have h2 : r.nm = false := h2
        refine oj_run TT rfl ?_
        refine oj_split 51 rfl (fun h4 => absurd (show (!st.named) = true from h4) (by rw [h1]; decide)) (fun _ => ?_)
        refine oj_run TT rfl ?_
        (repeat refine oj_nil ?_)
        refine nj_set 65 (.a (.b (fitsR st n r))) rfl trivial (fun β => by unfold fitsR; rw [h1, h2]; rfl) ?_
        refine nj_again () trivial Nat.zero_lt_one rfl (by (repeat (first | exact trivial | refine And.intro rfl ?_))) (by (repeat (first | exact trivial | refine And.intro rfl ?_))) rfl (by (repeat' (first | exact trivial | exact Nat.le_of_ble_eq_true rfl | constructor))) (by (repeat' (first | exact trivial | exact Nat.le_of_ble_eq_true rfl | refine AllLt.of ?_ | constructor)))
    · have h1 : st.named = false := h1
      refine oj_run TT rfl ?_
      refine oj_split 51 rfl (fun _ => ?_) (fun h4 => absurd (show (!st.named) = false from h4) (by rw [h1]; decide))
      refine oj_run TT rfl ?_
      refine oj_idx TT rfl rfl rfl rfl rfl rfl rfl rfl rfl H (by omega) hrec (oj_run TT rfl ?_)
      refine oj_split 59 rfl (fun h2 => ?_) (fun h2 => ?_)
      · have h2 : (!r.nm) = true := h2
        refine oj_run TT rfl ?_
        (repeat refine oj_nil ?_)
        refine nj_set 65 (.a (.b (fitsR st n r))) rfl trivial (fun β => by unfold fitsR; rw [h1, h2]; rfl) ?_
        refine nj_again () trivial Nat.zero_lt_one rfl (by (repeat (first | exact trivial | refine And.intro rfl ?_))) (by (repeat (first | exact trivial | refine And.intro rfl ?_))) rfl (by (repeat' (first | exact trivial | exact Nat.le_of_ble_eq_true rfl | constructor))) (by (repeat' (first | exact trivial | exact Nat.le_of_ble_eq_true rfl | refine AllLt.of ?_ | constructor)))
      · have h2 : (!r.nm) = false := h2
        refine oj_run TT rfl ?_
        (repeat refine oj_nil ?_)
        refine nj_set 65 (.a (.b (fitsR st n r))) rfl trivial (fun β => by unfold fitsR; rw [h1, h2]; rfl) ?_
        refine nj_again () trivial Nat.zero_lt_one rfl (by (repeat (first | exact trivial | refine And.intro rfl ?_))) (by (repeat (first | exact trivial | refine And.intro rfl ?_))) rfl (by (repeat' (first | exact trivial | exact Nat.le_of_ble_eq_true rfl | constructor))) (by (repeat' (first | exact trivial | exact Nat.le_of_ble_eq_true rfl | refine AllLt.of ?_ | constructor)))
  refine cj_if rfl (fun h => ?_) (fun h => ?_)
  · rw [h, if_pos rfl] at hf
    rw [← hf] at hp
    (repeat (first | refine cj_seq ?_ | (refine cj_region ?_; refine oj_run TT rfl ?_) | refine oj_then ?_ | refine oj_nil ?_ | refine cj_exit ?_ | refine nj_then ?_ | refine nj_then_exit ?_ | refine nj_block_out ?_ | refine nj_block_on rfl ?_ | (refine oj_add rfl rfl rfl rfl rfl rfl (by omega) ?_; refine oj_run TT rfl ?_)))
    refine nj_again (σ1, k + 1, m) ⟨Snap.le_trans hle hle1, hkl, hml, hp⟩ (by dsimp only; omega) rfl (by (repeat (first | exact trivial | refine And.intro rfl ?_))) (by (repeat (first | exact trivial | refine And.intro rfl ?_))) rfl (by (repeat' (first | exact trivial | constructor))) (by (repeat' exact trivial))
  · rw [h, if_neg (by simp)] at hf
    (repeat (first | (refine cj_region ?_; refine oj_run TT rfl ?_) | refine oj_nil ?_ | refine cj_skip ?_ | refine nj_then ?_ | refine nj_block ?_ | (refine oj_add rfl rfl rfl rfl rfl rfl (by omega) ?_; refine oj_run TT rfl ?_)))
    refine nj_again (n + 1) ⟨hnl, hf⟩ (by omega) rfl (by (repeat (first | exact trivial | refine And.intro rfl ?_))) (by (repeat (first | exact trivial | refine And.intro rfl ?_))) rfl (by (repeat' (first | exact trivial | exact Nat.le_of_ble_eq_true rfl | constructor))) (by (repeat' (first | exact trivial | exact Nat.le_of_ble_eq_true rfl | refine AllLt.of ?_ | constructor)))
end Go.Sy
/- Plain laws: what stands at a record's place, and the record that stands at a place. No program in sight. -/
namespace Go.Sy

/-! ### Kinds -/

mutual
def kinds : GVal → Prop
  | .mk k _ _ _ l ks vs => (l ≠ [] → k = 4) ∧ (ks ≠ [] → k = 5) ∧ kindss l ∧ kindss vs
def kindss : List GVal → Prop
  | [] => True
  | g :: gs => kinds g ∧ kindss gs
end
theorem kinds_eq (g : GVal) : kinds g ↔ (g.l ≠ [] → g.kind = 4) ∧ (g.ks ≠ [] → g.kind = 5) ∧ kindss g.l ∧ kindss g.vs := by cases g; simp only [kinds, GVal.l, GVal.kind, GVal.ks, GVal.vs]
theorem kindss_mem : ∀ {gs : List GVal} {g : GVal}, kindss gs → g ∈ gs → kinds g
  | _ :: _, _, h, hm => by
    cases hm with
    | head => exact h.1
    | tail _ hm => exact kindss_mem h.2 hm
mutual
theorem sane_kinds4 : ∀ (g : GVal) (deep c : Int), (saneG g deep c).1 = 0 → kinds g
  | .mk k b n s l ks vs, deep, c, h => by
    simp only [saneG] at h
    split at h
    · simp at h
    rename_i hf
    have hf : fieldsG (.mk k b n s l ks vs) = true := by simpa using hf
    obtain ⟨h1, h2⟩ := fields_kind hf
    simp only [GVal.l, GVal.ks, GVal.kind] at h1 h2
    split at h
    · simp at h
    split at h
    · simp at h
    split at h
    · simp at h
    simp only [kinds]
    have hl : (saneL l deep (c + 1)).1 = 0 := by
      by_cases h0 : (saneL l deep (c + 1)).1 = 0
      · exact h0
      · rw [if_pos h0] at h; exact h
    rw [if_neg (by simp [hl])] at h
    exact ⟨h1, h2, sane_kinds4s l _ _ hl, sane_kinds4s vs _ _ h⟩
theorem sane_kinds4s : ∀ (gs : List GVal) (deep c : Int), (saneL gs deep c).1 = 0 → kindss gs
  | [], _, _, _ => trivial
  | g :: gs, deep, c, h => by
    simp only [saneL] at h
    have hg : (saneG g (deep + 1) c).1 = 0 := by
      by_cases h0 : (saneG g (deep + 1) c).1 = 0
      · exact h0
      · rw [if_pos h0] at h; exact h
    rw [if_neg (by simp [hg])] at h
    exact ⟨sane_kinds4 g _ _ hg, sane_kinds4s gs _ _ h⟩
end
theorem its_kinds {g : GVal} {x : Itm} (h : g.wf) (hk : kinds g) (hx : x ∈ its g) : kinds x.v := by
  have h' := (kinds_eq g).1 hk
  rcases List.mem_append.1 (its_mem h hx) with hm | hm
  · exact kindss_mem h'.2.2.1 hm
  · exact kindss_mem h'.2.2.2 hm

/-! ### What stands at a place -/

theorem findG_first {α : Type} {q : α → Bool} : ∀ {l : List α} {k j : Nat} {x : α}, l[j]? = some x → q x = true → (∀ (i : Nat) y, i < j → l[i]? = some y → q y = false) → findG q l k = (k + j : Nat)
  | x :: l, k, 0, y, h, hq, _ => by
    simp only [List.getElem?_cons_zero, Option.some.injEq] at h
    subst h
    rw [findG, if_pos hq, Nat.add_zero]
  | x :: l, k, j + 1, y, h, hq, hn => by
    have h0 := hn 0 x (by omega) rfl
    rw [findG, h0, if_neg (by simp), findG_first (l := l) (k := k + 1) (j := j) (by simpa using h) hq fun i z hi hz => hn (i + 1) z (by omega) (by simpa using hz)]
    congr 1
    omega
  | [], _, _, _, h, _, _ => by simp at h

theorem its_split {g : GVal} {m : Nat} {x : Itm} (hx : (its g)[m]? = some x) : (x.nm = false ∧ m < g.l.length ∧ g.l[m]? = some x.v) ∨ (x.nm = true ∧ g.l.length ≤ m ∧ g.ks[m - g.l.length]? = some x.name ∧ g.vs[m - g.l.length]? = some x.v) := by
  have hl : (itsL g.l).length = g.l.length := by simp [itsL]
  unfold its at hx
  by_cases hm : m < g.l.length
  · rw [List.getElem?_append_left (by omega)] at hx
    simp only [itsL, List.getElem?_map, Option.map_eq_some_iff] at hx
    obtain ⟨y, h1, rfl⟩ := hx
    exact .inl ⟨rfl, hm, h1⟩
  · rw [List.getElem?_append_right (by omega), hl] at hx
    obtain ⟨h1, h2, h3⟩ := itsM_get _ _ _ _ hx
    exact .inr ⟨h1, by omega, h2, h3⟩

theorem stepV_its {g : GVal} (hk : keysOk g) (hd : kinds g) {m : Nat} {x : Itm} (hx : (its g)[m]? = some x) : stepV g (stepOf m x) = some x.v := by
  obtain ⟨k4, k5, -, -⟩ := (kinds_eq g).1 hd
  rcases its_split hx with ⟨h1, h2, h3⟩ | ⟨h1, h2, h3, h4⟩
  · have hk4 : g.kind = 4 := k4 (fun e => by rw [e] at h2; simp at h2)
    unfold stepV stepOf
    rw [h1, hk4]
    simp only [Bool.false_eq_true, if_false, if_true]
    rw [if_neg (by omega), if_pos (by omega), Int.toNat_natCast, h3]
  · have hk5 : g.kind = 5 := k5 (fun e => by rw [e] at h3; simp at h3)
    have hnd := (twice_nodup _ _ ((keysOk_eq g).1 hk).1).2
    have hlt := (List.getElem?_eq_some_iff.1 h3).1
    have hp : placeM g.ks x.name = (m - g.l.length : Nat) := by
      have := findG_first (q := fun k => decide (k = x.name)) (k := 0) h3 (by simp) fun i y hi hy => by
        have hne : y ≠ x.name := fun e => by
          have := (List.getElem?_inj (j := m - g.l.length) (i := i) (by omega) hnd).1 (by rw [hy, h3, e])
          omega
        simpa using hne
      rw [Nat.zero_add] at this
      exact this
    unfold stepV stepOf
    rw [h1]
    simp only [if_true]
    unfold getG
    rw [if_pos hk5, hp, if_neg (by omega), Int.toNat_natCast, h4]

theorem sub_at {gap : Int} {g : GVal} {p : Nat} {now : Int} {P : List GStep} {h : GVal} {q : Nat} {a : Int} (hs : Sub gap g p now P h q a) : g.wf → keysOk g → kinds g → atV g P = some h := by
  induction hs with
  | refl => intro _ _ _; rfl
  | @step g p now m x P h q a hx hs ih =>
    intro hw hk hd
    have hm := List.mem_of_getElem? hx
    rw [atV, stepV_its hk hd hx, Option.bind_some]
    exact ih (its_wf hw hm) (its_keys hw hk hm) (its_kinds hw hd hm)

/-! ### The record at a place -/

theorem Loc.kid_rec {gap : Int} (hg : 0 < gap) {L : List GRec} {g : GVal} {p : Nat} {now : Int} {pre : List GStep} (h : Loc gap L g p now pre) {m : Nat} {x : Itm} (hx : (its g)[m]? = some x) :
    ∃ r, L[p + 1 + cntI ((its g).take m)]? = some r ∧ r.nm = x.nm ∧ r.name = x.name := by
  obtain ⟨h1, h2⟩ := h.kid hg hx
  obtain ⟨nm, name, h3⟩ := h1.rec_
  have h4 := h1.place (p + 1 + cntI ((its g).take m) + 1) (by omega)
  unfold upF at h4
  rw [h2, if_neg (by omega), List.reverse_append] at h4
  have h5 : stepG L (p + 1 + cntI ((its g).take m)) ((p : Int).toNat) = stepOf m x := (List.cons.inj h4).1
  unfold stepG stepOf at h5
  rw [h3] at h5
  dsimp only at h5
  injection h5 with h6 h7 h8
  exact ⟨_, h3, h8, h6⟩

theorem firstR_at {L : List GRec} {s : GStep} : ∀ {ks : List Nat} {n m q : Nat} {r : GRec}, (∀ (j k : Nat), j < m → ks[j]? = some k → ∃ r, L[k]? = some r ∧ fitsR s (n + j) r = false) → ks[m]? = some q → L[q]? = some r → fitsR s (n + m) r = true →
    firstR L s ks n = some q
  | k :: ks, n, 0, q, r, _, h1, h2, h3 => by
    simp only [List.getElem?_cons_zero, Option.some.injEq] at h1
    subst h1
    unfold firstR
    rw [h2]
    dsimp only
    rw [Nat.add_zero] at h3
    rw [if_pos h3]
  | k :: ks, n, m + 1, q, r, h, h1, h2, h3 => by
    obtain ⟨r0, a1, a2⟩ := h 0 k (by omega) rfl
    unfold firstR
    rw [a1]
    dsimp only
    rw [Nat.add_zero] at a2
    rw [a2, if_neg (by simp)]
    refine firstR_at (m := m) (fun j k' hj hk' => ?_) (by simpa using h1) h2 (by rw [show n + 1 + m = n + (m + 1) by omega]; exact h3)
    have := h (j + 1) k' (by omega) (by simpa using hk')
    rw [show n + (j + 1) = n + 1 + j by omega] at this
    exact this
  | [], _, _, _, _, _, h1, _, _ => by simp at h1

theorem Loc.kid_pos {gap : Int} (hg : 0 < gap) {L : List GRec} {g : GVal} {p : Nat} {now : Int} {pre : List GStep} (h : Loc gap L g p now pre) {m : Nat} (hm : m < (its g).length) : (kidsG L p)[m]? = some (p + 1 + cntI ((its g).take m)) := by
  rw [h.kids hg, ← vals_its h.wf, pos_get _ _ _ (by simpa [valsI] using hm)]
  unfold cntI valsI
  rw [List.map_take]

theorem fits_self (m : Nat) (x : Itm) {r : GRec} (h1 : r.nm = x.nm) (h2 : r.name = x.name) : fitsR (stepOf m x) m r = true := by
  unfold fitsR stepOf
  rw [h1, h2]
  cases x.nm <;> simp
theorem fits_other {g : GVal} (hk : keysOk g) {j m : Nat} {x y : Itm} (hx : (its g)[m]? = some x) (hy : (its g)[j]? = some y) (hne : j ≠ m) {r : GRec} (h1 : r.nm = y.nm) (h2 : r.name = y.name) : fitsR (stepOf m x) j r = false := by
  have hst : stepOf j y ≠ stepOf m x := fun e => hne (stepOf_inj hk hy hx e)
  unfold fitsR stepOf at *
  rw [h1, h2]
  cases hxn : x.nm <;> cases hyn : y.nm <;> simp_all
  · omega

theorem loc_find {gap : Int} (hg : 0 < gap) {L : List GRec} {g : GVal} {p : Nat} {now : Int} {P : List GStep} {h : GVal} {q : Nat} {a : Int} (hs : Sub gap g p now P h q a) : ∀ {pre : List GStep}, Loc gap L g p now pre → findR L p P = q := by
  induction hs with
  | refl => intro pre _; rfl
  | @step g p now m x P h q a hx hs ih =>
    intro pre hl
    have hlt := (List.getElem?_eq_some_iff.1 hx).1
    obtain ⟨r, h1, h2, h3⟩ := hl.kid_rec hg hx
    have hf : firstR L (stepOf m x) (kidsG L p) 0 = some (p + 1 + cntI ((its g).take m)) := by
      refine firstR_at (m := m) (fun j k hj hk => ?_) (hl.kid_pos hg hlt) h1 (by rw [Nat.zero_add]; exact fits_self m x h2 h3)
      have hy : (its g)[j]? = some ((its g)[j]'(by omega)) := List.getElem?_eq_getElem _
      obtain ⟨r', a1, a2, a3⟩ := hl.kid_rec hg hy
      rw [hl.kid_pos hg (by omega)] at hk
      obtain rfl := Option.some.inj hk
      exact ⟨r', a1, by rw [Nat.zero_add]; exact fits_other hl.keys hx hy (by omega) a2 a3⟩
    rw [findR, hf]
    exact ih (hl.kid hg hx).1

/-! ### The last one in a record -/

theorem Loc.last {gap : Int} (hg : 0 < gap) {L : List GRec} {g : GVal} {p : Nat} {now : Int} {pre : List GStep} (h : Loc gap L g p now pre) : lastG L p = p + cntV g - 1 := by
  obtain ⟨nm, name, rest, h1, hfr⟩ := h.at_
  obtain ⟨nm', name', hr⟩ := h.rec_
  have h2 := congrArg (List.map se) h1
  rw [List.map_drop, List.map_append, (shredV_sk gap g _ nm name now h.wf).1, skV_eq, List.cons_append] at h2
  obtain ⟨-, h4⟩ := drop_at h2
  have hce := cntV_eq g
  have hwe := wV_eq gap g
  have hrun : runP (now + wV gap g) ((L.map se).drop (p + 1)) = cntL (g.l ++ g.vs) := by
    rw [h4, runP_block hfr _ (fun x hx => by have := skL_bd hg _ _ x hx; omega), skL_len]
  unfold lastG runK
  rw [hr]
  show ((p + 1 + runL (now + wV gap g) (L.drop (p + 1)) : Nat) : Int) - 1 = _
  rw [runL_se, List.map_drop, hrun, cntL_append]
  omega

theorem sub_weight {gap : Int} {g : GVal} {p : Nat} {now : Int} {P : List GStep} {h : GVal} {q : Nat} {a : Int} (hs : Sub gap g p now P h q a) : g.wf → h.weight ≤ g.weight := by
  induction hs with
  | refl => intro _; exact Nat.le_refl _
  | @step g p now m x P h q a hx hs ih =>
    intro hw
    have hm := List.mem_of_getElem? hx
    exact Nat.le_trans (ih (its_wf hw hm)) (Nat.le_of_lt (in_weight (its_mem hw hm)))

/-- WHAT IS SAID OF EACH RECORD'S PLACE. -/
theorem shred_places {gap : Int} (hg : 0 < gap) {g : GVal} {nm : Bool} {name : ByteArray} (hw : g.wf) (hk : keysOk g) (hd : kinds g) {L : List GRec} (hL : L = (shredV gap g 0 nm name 0).1) {a : Nat} (ha : a < cntV g) {r : GRec} (hr : L[a]? = some r) :
    ∃ h : GVal, atV g (placeG L a) = some h ∧ h.weight ≤ g.weight ∧ h.wf ∧ h.kind = r.kd ∧ h.s = r.s ∧ h.n = r.n ∧ h.b = r.b ∧ findR L 0 (placeG L a) = a ∧ (kidsG L a).length = h.l.length + h.vs.length ∧
      (∀ (m k : Nat), (kidsG L a)[m]? = some k → parentG L k = a ∧ k < cntV g) ∧ lastG L a = a + cntV h - 1 ∧ ((kidsG L a).length = 0 → cntV h = 1) ∧
      (∀ k, (kidsG L a)[(kidsG L a).length - 1]? = some k → lastG L k = lastG L a) := by
  subst hL
  obtain ⟨h, s, hs, hl⟩ := shred_loc hg (nm := nm) (name := name) hw hk ha
  obtain ⟨nx, mx, ex⟩ := hl.rec_
  rw [hr] at ex
  have ex := Option.some.inj ex
  have hlen : (kidsG (shredV gap g 0 nm name 0).1 a).length = (its h).length := by
    rw [hl.kids hg, ← vals_its hl.wf]
    have : ∀ (gs : List GVal) (p : Nat), (pos gs p).length = gs.length := by
      intro gs
      induction gs with
      | nil => intro p; rfl
      | cons g gs ih => intro p; simp [pos, ih]
    rw [this]
    simp [valsI]
  have hlv : (its h).length = h.l.length + h.vs.length := by
    have := congrArg List.length (vals_its hl.wf)
    simpa [valsI] using this
  have hcv := cntI_its hl.wf
  have hcnt := shredV_cnt gap g 0 nm name 0 hw
  have hkid : ∀ (m k : Nat), (kidsG (shredV gap g 0 nm name 0).1 a)[m]? = some k → ∃ x, (its h)[m]? = some x ∧ k = a + 1 + cntI ((its h).take m) := by
    intro m k hk'
    have hm : m < (its h).length := by
      have := (List.getElem?_eq_some_iff.1 hk').1
      omega
    rw [hl.kid_pos hg hm] at hk'
    exact ⟨(its h)[m], List.getElem?_eq_getElem hm, (Option.some.inj hk').symm⟩
  subst ex
  refine ⟨h, sub_at hs hw hk hd, sub_weight hs hw, hl.wf, rfl, rfl, rfl, rfl, loc_find hg hs (loc_root hw hk), by rw [hlen, hlv], fun m k hk' => ?_, hl.last hg, fun h0 => ?_, fun k hk' => ?_⟩
  · obtain ⟨x, hx, rfl⟩ := hkid m k hk'
    obtain ⟨b1, b2⟩ := hl.kid hg hx
    obtain ⟨_, _, b3⟩ := b1.rec_
    have := (List.getElem?_eq_some_iff.1 b3).1
    exact ⟨b2, by omega⟩
  · rw [hlen] at h0
    have : its h = [] := List.eq_nil_of_length_eq_zero h0
    rw [this] at hcv
    rw [hcv]
    rfl
  · obtain ⟨x, hx, rfl⟩ := hkid _ k hk'
    rw [(hl.kid hg hx).1.last hg, hl.last hg]
    have hsp := cntI_split hx
    have hlt := (List.getElem?_eq_some_iff.1 hx).1
    rw [hlen] at hsp hlt ⊢
    rw [List.drop_eq_nil_of_le (by omega : (its h).length ≤ (its h).length - 1 + 1)] at hsp
    have : cntI [] = 0 := rfl
    omega
end Go.Sy
namespace Go.Sy
open Go.Proofs

/-! ### ShredPlaces -/

/-- What is known of a sane value's records. -/
theorem shred_facts {σ : Snap} {g : GVal} {r : List AT} (hr : RepV σ g r) {gap : Int} (hg : 1 ≤ gap) (hg2 : gap ≤ 1000) (hw : g.weight ≤ 4000) (hs : sane g = 0) {L : List GRec} (hL : L = (shredV gap g 0 false emptyS 0).1) :
    L.length = cntV g ∧ L.length ≤ g.weight ∧ 0 < L.length ∧ soundG L = true ∧ RecsOk L ∧ buildR L = (g, 0) := by
  subst hL
  have hcnt := shredV_cnt gap g 0 false emptyS 0 hr.wf
  obtain ⟨hlen1, hlen2⟩ := shredV_len gap g 0 false emptyS 0
  have hfit := shredV_fit gap g _ 0 false emptyS 0 hr (by decide)
  have hpos := cntV_pos g
  have hnow := (shredV_now (gap := gap) g 0 false emptyS 0 (by omega) hg2).2
  have hbd : buildR (shredV gap g 0 false emptyS 0).1 = (g, 0) := by
    have := buildR_shred (φ := fun x => x) (fun a b _ h => h) (gap := gap) (by omega) (by omega) g hr.wf hs (by omega) (by omega)
    rw [stE_id, List.map_id] at this
    exact this
  have hBG : buildG (shredV gap g 0 false emptyS 0).1 = (g, []) := by
    have := build_shred (fun x => x) gap g false emptyS 0 hr.wf
    rw [stE_id, List.map_id] at this
    exact this
  have hsound : soundG (shredV gap g 0 false emptyS 0).1 = true := by
    unfold soundG
    rw [hbd]
    rfl
  exact ⟨hcnt, hlen1, by omega, hsound, ⟨by simp only [mostLen]; omega, hfit, fun _ => by rw [hBG]; show g.weight ≤ _; omega⟩, hbd⟩

set_option maxRecDepth 100000 in
set_option maxHeartbeats 1000000 in
theorem ShredPlaces_c (σ : Snap) (g : GVal) (r : List AT) (i : Int) (hr : RepV σ g r) :
    PlainS Tryd.prog 8 [.agg r, .a (.v (.int .i64 i))] σ (fun v => v = .bool true) := by
  obtain ⟨la, lc, lrows, ma, mc, vrows, rfl, V⟩ := hr.open
  refine enter_p Tryd.func8 rfl rfl (by (repeat' (first | exact trivial | exact vCells_lt _ _ _ _ _ _ | constructor))) fun w => ?_
  (repeat (first | refine cj_seq ?_ | (refine cj_region ?_; refine oj_run TT rfl ?_) | refine oj_then ?_))
  refine oj_callP rfl rfl rfl rfl rfl Tryd.call18 (by (repeat' exact trivial)) (awake11_c σ) fun v hv => ⟨.a .tt, trivial, hv.symm, ?_⟩
  refine oj_run TT rfl ?_
  (repeat (first | refine cj_seq ?_ | (refine cj_region ?_; refine oj_run TT rfl ?_) | refine oj_then ?_))
  refine oj_callP rfl rfl rfl rfl rfl Tryd.call19 (by (repeat' (first | exact trivial | exact vCells_lt _ _ _ _ _ _ | constructor))) (Few_c σ g _ 1500 V.rep (by omega) (by omega)) fun v ⟨fb, hv, hfew⟩ => ⟨.a (.b fb), trivial, hv.symm, ?_⟩
  refine oj_run TT rfl ?_
  (repeat refine oj_then ?_)
  refine cj_if rfl (fun h => ?_) (fun h => ?_)
  · (repeat (first | refine cj_seq ?_ | (refine cj_region ?_; refine oj_run TT rfl ?_) | refine oj_then ?_ | refine cj_ret ?_ | refine nj_then_ret ?_))
    refine nj_ret TT rfl fun β w' _ _ => ?_
    rfl
  have hw : g.weight ≤ 1500 := by
    have := hfew (by simpa using h)
    omega
  (repeat (first | refine cj_seq ?_ | (refine cj_region ?_; refine oj_run TT rfl ?_) | refine cj_skip ?_ | refine nj_then ?_))
  refine oj_callS rfl rfl rfl rfl rfl Tryd.call21 ⟨vCells_lt _ _ _ _ _ _, trivial, trivial⟩ (Shred_s σ g _ 1 V.rep (by omega)) fun v σ1 hle1 ⟨ao, cap, hv, H⟩ => ⟨.tup [.a (.v (.slice ao (shredG g 1).1.length cap)), .a (.v (.int .i64 (shredG g 1).2))], (by (repeat' (first | exact trivial | refine SV.lt_tup ?_ | constructor))), hv.symm, ?_⟩
  rw [shredG_k (by omega) (by omega)] at H ⊢
  by_cases hs : sane g ≠ 0
  · rw [if_pos hs] at H ⊢
    dsimp only at H ⊢
    refine oj_run TT rfl ?_
    (repeat (first | refine cj_seq ?_ | (refine cj_region ?_; refine oj_run TT rfl ?_) | refine oj_then ?_))
    refine oj_split 26 rfl (fun h => ?_) (fun h => absurd (by simpa using h) hs)
    refine oj_run TT rfl ?_
    (repeat (first | refine cj_seq ?_ | (refine cj_region ?_; refine oj_run TT rfl ?_) | refine oj_then ?_ | refine cj_if_t rfl ?_ | refine cj_ret ?_ | refine nj_then_ret ?_))
    refine nj_ret TT rfl fun β w' _ _ => ?_
    rfl
  have hs : sane g = 0 := by simpa using hs
  rw [if_neg (by simp [hs])] at H ⊢
  dsimp only at H ⊢
  generalize hLdef : (shredV 1 g 0 false emptyS 0).1 = L at *
  obtain ⟨hcnt, hlen1, hpos, hsound, R, -⟩ := shred_facts V.rep (by omega) (by omega) (by omega) hs hLdef.symm
  refine oj_run TT rfl ?_
  (repeat (first | refine cj_seq ?_ | (refine cj_region ?_; refine oj_run TT rfl ?_) | refine oj_then ?_))
  refine oj_split 26 rfl (fun h => absurd h (by decide)) (fun h => ?_)
  refine oj_run TT rfl ?_
  (repeat refine oj_then ?_)
  refine cj_if rfl (fun h => ?_) (fun h => ?_)
  · have := of_decide_eq_true h
    omega
  have hmi := bAnd_le i 65535 (by omega) (by omega)
  (repeat (first | refine cj_seq ?_ | (refine cj_region ?_; refine oj_run TT rfl ?_) | refine cj_skip ?_ | refine nj_then ?_ | (refine oj_band rfl rfl rfl rfl rfl rfl ?_; refine oj_run TT rfl ?_)))
  generalize bAnd .i64 i 65535 = m1 at hmi ⊢
  refine oj_rem rfl rfl rfl rfl rfl rfl (by omega) ?_
  obtain ⟨a, ha⟩ : ∃ a : Nat, m1.tmod L.length = a := ⟨(m1.tmod L.length).toNat, by
    have := Int.tmod_nonneg (L.length : Int) hmi.1
    omega⟩
  have hal : a < L.length := by
    have := Int.tmod_lt_of_pos m1 (show (0 : Int) < L.length by omega)
    omega
  rw [ha]
  have hra := recRows_get (List.getElem?_eq_getElem hal)
  obtain ⟨wv, hat, hww, hwwf, ekd, es, en, eb, hfind, hkl, hkp, hlast, hone, hkl2⟩ := shred_places (gap := 1) (by omega) V.rep.wf (sane_keys g 0 0 hs) (sane_kinds4 g 0 0 hs) hLdef.symm (a := a) (by omega) (List.getElem?_eq_getElem hal)
  have hkv := ((wf_eq wv).1 hwwf).1
  have hPl : (placeG L a).length ≤ a + 1 := by unfold placeG; rw [List.length_reverse]; exact upF_len L (a + 1) a
  have hkle : (kidsG L a).length ≤ L.length := by
    unfold kidsG
    exact Nat.le_trans (kidsF_len L _ L.length (a + 1)) (Nat.sub_le _ _)
  have hwc := cntV_le wv
  clear hLdef
  generalize L[a] = x at *
  refine oj_run TT rfl ?_
  (repeat (first | refine cj_seq ?_ | (refine cj_region ?_; refine oj_run TT rfl ?_) | refine oj_then ?_))
  refine oj_callS rfl rfl rfl rfl rfl Tryd.call27 ⟨trivial, trivial, trivial⟩ (Place_c σ1 L R ao cap H a hal hsound (by omega)) fun v σ2 hle2 ⟨xo, xc, hv, HX⟩ => ⟨.a (.v (.slice xo (placeG L a).length xc)), trivial, hv.symm, ?_⟩
  have H := H.mono hle2
  have V := V.monoC (Snap.le_trans hle1 hle2).cle
  generalize placeG L a = P at *
  refine oj_run TT rfl ?_
  (repeat (first | refine cj_seq ?_ | (refine cj_region ?_; refine oj_run TT rfl ?_) | refine oj_then ?_))
  refine oj_callP rfl rfl rfl rfl rfl Tryd.call45 (by (repeat' (first | exact trivial | exact vCells_lt _ _ _ _ _ _ | constructor))) (At_c σ2 g la lc lrows ma mc vrows V P (by omega) xo xc HX) fun v ⟨r, hv, hr⟩ => ?_
  rw [hat] at hv hr
  obtain ⟨la', lc', lrows', ma', mc', vrows', rfl, V'⟩ := hr.open
  have V' : VAt σ2 wv la' lc' lrows' ma' mc' vrows' := V'
  refine ⟨.tup [.agg (vCells wv la' lc' ma' mc'), .a .tt], (by (repeat' (first | exact trivial | exact vCells_lt _ _ _ _ _ _ | refine SV.lt_tup ?_ | constructor))), hv.symm, ?_⟩
  refine oj_run TT rfl ?_
  (repeat (first | refine cj_seq ?_ | refine oj_then ?_))
  refine cj_draw [(0,.pure),(1,.pure),(2,.pure),(3,.pure),(4,.quiet),(5,.pure),(6,.pure),(7,.pure),(8,.pure),(9,.quiet),(10,.pure),(11,.pure),(12,.pure),(13,.pure),(14,.quiet),(15,.pure),(16,.pure),(17,.pure),(18,.pure),(19,.quiet),(20,.pure),(21,.pure),(22,.pure),(23,.pure),(24,.quiet),(25,.pure),(26,.pure),(27,.pure),(28,.pure),(29,.quiet),(30,.pure),(31,.pure),(32,.pure),(33,.pure),(34,.quiet),(35,.pure),(36,.pure),(37,.pure),(38,.pure),(39,.quiet),(40,.pure),(41,.pure),(42,.pure),(43,.pure),(44,.pure),(46,.pure),(45,.keep),(47,.pure),(48,.pure)] mixed (by kernel_rfl) (oj_run TT rfl ?_)
  refine oj_idx TT rfl rfl rfl rfl rfl rfl rfl rfl rfl H (by omega) hra (oj_run TT rfl ?_)
  refine oj_split 58 rfl (fun h => absurd (show (!decide (wv.kind = x.kd)) = true from h) (by simp [ekd])) (fun _ => ?_)
  refine oj_run TT rfl ?_
  refine oj_idx TT rfl rfl rfl rfl rfl rfl rfl rfl rfl H (by omega) hra (oj_run TT rfl ?_)
  refine oj_split 68 rfl (fun h => absurd (show (!decide (wv.s = x.s)) = true from h) (by simp [es])) (fun _ => ?_)
  refine oj_run TT rfl ?_
  refine oj_idx TT rfl rfl rfl rfl rfl rfl rfl rfl rfl H (by omega) hra (oj_run TT rfl ?_)
  refine oj_neDec wv.n x.n rfl rfl rfl rfl rfl rfl rfl (fun _ => rfl) (fun _ => rfl) (oj_run TT rfl ?_)
  refine oj_split 78 rfl (fun h => absurd (show (!decide (wv.n = x.n)) = true from h) (by simp [en])) (fun _ => ?_)
  refine oj_run TT rfl ?_
  refine oj_idx TT rfl rfl rfl rfl rfl rfl rfl rfl rfl H (by omega) hra (oj_run TT rfl ?_)
  refine oj_split 88 rfl (fun h => absurd (show (wv.b != x.b) = true from h) (by simp [eb])) (fun _ => ?_)
  refine oj_run TT rfl ?_
  refine oj_callP rfl rfl rfl rfl rfl Tryd.call43 (by (repeat' (first | exact trivial | constructor))) (Find_c σ2 L R ao cap H hsound (by omega) hpos P (by omega) xo xc HX) fun v hv => ⟨.a (.v (.int .i64 (a : Nat))), trivial, (by rw [hv, hfind]; rfl), ?_⟩
  refine oj_run TT rfl ?_
  (repeat refine oj_then ?_)
  refine cj_if rfl (fun h => absurd (show (!decide ((a : Int) = a)) = true from h) (by simp)) (fun _ => ?_)
  (repeat (first | refine cj_seq ?_ | (refine cj_region ?_; refine oj_run TT rfl ?_) | refine cj_skip ?_ | refine nj_then ?_))
  refine oj_callS rfl rfl rfl rfl rfl Tryd.call26 ⟨trivial, trivial, trivial⟩ (Kids_c σ2 L R ao cap H a hal hsound (by omega)) fun v σ3 hle3 ⟨oo, oc, hv, HK⟩ => ⟨.a (.v (.slice oo (kidsG L a).length oc)), trivial, hv.symm, ?_⟩
  have H := H.mono hle3
  have V' := V'.monoC hle3.cle
  generalize kidsG L a = ks at *
  refine oj_run TT rfl ?_
  (repeat (first | refine cj_seq ?_ | (refine cj_region ?_; refine oj_run TT rfl ?_) | refine oj_then ?_ | (refine oj_add rfl rfl rfl rfl rfl rfl (by omega) ?_; refine oj_run TT rfl ?_)))
  refine cj_if rfl (fun h => ?_) (fun _ => ?_)
  · have h : ¬ (ks.length : Int) = wv.l.length + wv.ks.length := by simpa using h
    omega
  (repeat (first | refine cj_seq ?_ | (refine cj_region ?_; refine oj_run TT rfl ?_) | refine oj_then ?_ | refine cj_skip ?_ | refine cj_block ?_ | refine nj_then ?_))
  refine cj_cutB (α := Unit) (fun _ => σ3) (fun _ => [(5, .a .tt), (6, .a (.v (.slice ao L.length cap))), (8, .a (.v (.int .i64 (a : Nat)))), (10, .a (.p 1 0)), (12, .a (.v (.slice oo ks.length oc)))]) (fun _ => [(1, .loc 27, vCells wv la' lc' ma' mc')]) (fun _ => []) 2 (fun _ => True) ?_ (fun _ _ => ?_)
  · refine cj_loop (fun (_ : Nat) => σ3) (fun k => [(5, .a .tt), (6, .a (.v (.slice ao L.length cap))), (8, .a (.v (.int .i64 (a : Nat)))), (10, .a (.p 1 0)), (12, .a (.v (.slice oo ks.length oc))), (13, .a (.v (.int .i64 (k : Nat))))]) (fun _ => [(1, .loc 27, vCells wv la' lc' ma' mc')]) (fun _ => []) 2
      (fun k => k ≤ ks.length) (fun k => ks.length - k) 0 (Nat.zero_le _) rfl (by (repeat (first | exact trivial | refine And.intro rfl ?_))) (by (repeat (first | exact trivial | refine And.intro rfl ?_))) rfl (by (repeat' (first | exact trivial | exact Nat.le_of_ble_eq_true rfl | constructor))) (by (repeat' (first | exact trivial | exact Nat.le_of_ble_eq_true rfl | exact vCells_lt _ _ _ _ _ _ | constructor))) fun k hk => ?_
    (repeat (first | refine cj_seq ?_ | (refine cj_region ?_; refine oj_run TT rfl ?_) | refine oj_then ?_))
    refine cj_if rfl (fun h => ?_) (fun h => ?_)
    rotate_left
    · (repeat (first | refine cj_exit ?_ | refine nj_then_exit ?_ | refine nj_block_out ?_))
      refine nj_again () trivial Nat.zero_lt_one rfl (by (repeat (first | exact trivial | refine And.intro rfl ?_))) (by (repeat (first | exact trivial | refine And.intro rfl ?_))) rfl (by (repeat' (first | exact trivial | exact Nat.le_of_ble_eq_true rfl | constructor))) (by (repeat' (first | exact trivial | exact Nat.le_of_ble_eq_true rfl | exact vCells_lt _ _ _ _ _ _ | constructor)))
    have hkl' : k < ks.length := by have := of_decide_eq_true h; omega
    have hkr : (kidRows ks)[k]? = some [.v (.int .i64 (ks[k] : Nat))] := by unfold kidRows; rw [List.getElem?_map, List.getElem?_eq_getElem hkl']; rfl
    obtain ⟨hpar, hmc⟩ := hkp k ks[k] (List.getElem?_eq_getElem hkl')
    generalize ks[k] = m at *
    have hatm : atG L m = true := by
      unfold atG
      rw [hsound]
      simp
      omega
    (repeat (first | refine cj_seq ?_ | (refine cj_region ?_; refine oj_run TT rfl ?_) | refine cj_skip ?_ | refine cj_block ?_ | refine nj_then ?_))
    refine oj_idx TT rfl rfl rfl rfl rfl rfl rfl rfl rfl HK (by omega) hkr (oj_run TT rfl ?_)
    refine oj_callP rfl rfl rfl rfl rfl Tryd.call36 (by (repeat' (first | exact trivial | constructor))) (Parent_c σ3 L R ao cap H m) fun v hv => ⟨.a (.v (.int .i64 (a : Nat))), trivial, (by rw [hv, hatm, if_pos rfl, Int.toNat_natCast, hpar]; rfl), ?_⟩
    refine oj_run TT rfl ?_
    (repeat refine oj_then ?_)
    refine cj_if rfl (fun h => absurd (show (!decide ((a : Int) = a)) = true from h) (by simp)) (fun _ => ?_)
    (repeat (first | (refine cj_region ?_; refine oj_run TT rfl ?_) | refine oj_nil ?_ | refine cj_skip ?_ | refine nj_then ?_ | refine nj_block ?_ | (refine oj_add rfl rfl rfl rfl rfl rfl (by omega) ?_; refine oj_run TT rfl ?_)))
    refine nj_again (k + 1) hkl' (by omega) rfl (by (repeat (first | exact trivial | refine And.intro rfl ?_))) (by (repeat (first | exact trivial | refine And.intro rfl ?_))) rfl (by (repeat' (first | exact trivial | exact Nat.le_of_ble_eq_true rfl | constructor))) (by (repeat' (first | exact trivial | exact Nat.le_of_ble_eq_true rfl | exact vCells_lt _ _ _ _ _ _ | constructor)))
  (repeat (first | refine cj_seq ?_ | (refine cj_region ?_; refine oj_run TT rfl ?_) | refine oj_then ?_))
  refine cj_if rfl (fun h => ?_) (fun h => ?_)
  · have h0 : ks.length = 0 := by have := of_decide_eq_true h; omega
    have hc1 := hone h0
    have hla : lastG L a = a := by rw [hlast, hc1]; omega
    (repeat (first | refine cj_seq ?_ | (refine cj_region ?_; refine oj_run TT rfl ?_)))
    refine oj_callP rfl rfl rfl rfl rfl Tryd.call40 (by (repeat' (first | exact trivial | constructor))) (Last_c σ3 L R ao cap H a hal hsound) fun v hv => ⟨.a (.v (.int .i64 (a : Nat))), trivial, (by rw [hv, hla]; rfl), ?_⟩
    refine oj_run TT rfl ?_
    refine oj_split 133 rfl (fun _ => ?_) (fun h => absurd (show decide ((a : Int) = a) = false from h) (by simp))
    refine oj_run TT rfl ?_
    refine oj_callP rfl rfl rfl rfl rfl Tryd.call25 (by (repeat' (first | exact trivial | exact vCells_lt _ _ _ _ _ _ | constructor))) (Count_c wv σ3 _ V'.rep (by omega)) fun v hv => ⟨.a (.v (.int .i64 1)), trivial, (by rw [hv, hc1]; rfl), ?_⟩
    refine oj_run TT rfl ?_
    (repeat (first | refine oj_then ?_ | refine cj_ret ?_ | refine nj_then_ret ?_))
    refine nj_ret TT rfl fun β w' _ _ => ?_
    rfl
  have h0 : ¬ ks.length = 0 := by have := of_decide_eq_false h; omega
  have hnl : ks.length - 1 < ks.length := by omega
  have hkr : (kidRows ks)[((ks.length : Int) - 1).toNat]? = some [.v (.int .i64 (ks[ks.length - 1] : Nat))] := by
    rw [show ((ks.length : Int) - 1).toNat = ks.length - 1 by omega]
    unfold kidRows
    rw [List.getElem?_map, List.getElem?_eq_getElem hnl]
    rfl
  have hkk := hkl2 _ (List.getElem?_eq_getElem hnl)
  obtain ⟨-, hmc⟩ := hkp _ _ (List.getElem?_eq_getElem hnl)
  generalize ks[ks.length - 1] = m at *
  (repeat (first | refine cj_seq ?_ | refine cj_skip ?_ | refine nj_then ?_))
  refine cj_draw [(0,.pure),(1,.pure),(2,.pure),(3,.pure),(5,.pure),(6,.pure),(7,.pure),(8,.pure),(9,.pure),(10,.pure),(11,.quiet),(4,.keep),(12,.keep),(13,.pure),(14,.pure),(15,.pure),(16,.pure),(17,.pure),(19,.pure),(22,.quiet),(18,.keep),(20,.pure),(21,.pure),(23,.keep),(24,.pure),(25,.pure),(26,.pure)] mixed (by kernel_rfl) (oj_run TT rfl ?_)
  refine oj_minus rfl rfl rfl rfl rfl rfl (by omega) (oj_run TT rfl ?_)
  refine oj_idx TT rfl rfl rfl rfl rfl rfl rfl rfl rfl HK (by omega) hkr (oj_run TT rfl ?_)
  refine oj_callP rfl rfl rfl rfl rfl Tryd.call40 (by (repeat' (first | exact trivial | constructor))) (Last_c σ3 L R ao cap H a hal hsound) fun v hv => ⟨.a (.v (.int .i64 (lastG L a))), trivial, hv.symm, ?_⟩
  refine oj_run TT rfl ?_
  refine oj_callP rfl rfl rfl rfl rfl Tryd.call40 (by (repeat' (first | exact trivial | constructor))) (Last_c σ3 L R ao cap H m (by omega) hsound) fun v hv => ⟨.a (.v (.int .i64 (lastG L a))), trivial, (by rw [hv, hkk]; rfl), ?_⟩
  refine oj_run TT rfl ?_
  refine oj_split 153 rfl (fun _ => ?_) (fun h => absurd (show decide (lastG L a = lastG L a) = false from h) (by simp))
  refine oj_run TT rfl ?_
  refine oj_callP rfl rfl rfl rfl rfl Tryd.call40 (by (repeat' (first | exact trivial | constructor))) (Last_c σ3 L R ao cap H a hal hsound) fun v hv => ⟨.a (.v (.int .i64 (lastG L a))), trivial, hv.symm, ?_⟩
  refine oj_run TT rfl ?_
  refine oj_minus rfl rfl rfl rfl rfl rfl (by omega) (oj_run TT rfl ?_)
  refine oj_add rfl rfl rfl rfl rfl rfl (by omega) (oj_run TT rfl ?_)
  refine oj_callP rfl rfl rfl rfl rfl Tryd.call25 (by (repeat' (first | exact trivial | exact vCells_lt _ _ _ _ _ _ | constructor))) (Count_c wv σ3 _ V'.rep (by omega)) fun v hv => ⟨.a (.v (.int .i64 (cntV wv))), trivial, hv.symm, ?_⟩
  refine oj_run TT rfl ?_
  (repeat (first | refine oj_then ?_ | refine cj_ret ?_))
  refine nj_ret TT rfl fun β w' _ _ => ?_
  exact congrArg Value.bool (decide_eq_true (show lastG L a - a + 1 = cntV wv by omega))
end Go.Sy
namespace Go.Sy
open Go.Proofs

/-! ### Lists of texts as arrays -/

def strXs (l : List ByteArray) : List Value := l.map fun s => Value.string s
def stE9 (bo : Option Addr) (bc : Nat) (l : List ByteArray) : AE := ⟨bo, l.length, bc, 9, 1, strXs l⟩
theorem strRows_flat : ∀ o : List ByteArray, strXs o = (strRows o).flatten.map AT.val
  | [] => rfl
  | k :: o => by
    show Value.string k :: strXs o = _
    rw [strRows_flat o]
    rfl
theorem strRows_all (a : List ByteArray) : ∀ r ∈ strRows a, r.length = 1 ∧ (∀ c ∈ r, c.lt 0) ∧ r.all AT.one = true := by
  intro r hr
  obtain ⟨x, _, rfl⟩ := List.mem_map.1 hr
  exact ⟨rfl, fun c hc => (by cases hc with | head => trivial | tail _ h => cases h), rfl⟩
theorem st9_sealed {σ : Snap} {oo : Option Addr} {oc : Nat} {o : List ByteArray} (h : ArrSealed σ (stE9 oo oc o)) (hc : o.length ≤ oc) : SlAt σ oo o.length oc 1 (strRows o) :=
  h.sl (E := stE9 oo oc o) (strRows_flat o) (fun r hr => ⟨(strRows_all o r hr).1, (strRows_all o r hr).2.1⟩) (by simp [strRows]) rfl hc

def srXs (l : List SRow) : List Value := (srRows l).flatten.map AT.val
def srE (bo : Option Addr) (bc : Nat) (l : List SRow) : AE := ⟨bo, l.length, bc, 75, 1, srXs l⟩
theorem srXs_append (a b : List SRow) : srXs (a ++ b) = srXs a ++ srXs b := by simp [srXs, srRows]
theorem srRows_all (a : List SRow) : ∀ r ∈ srRows a, r.length = 1 ∧ (∀ c ∈ r, c.lt 0) ∧ r.all AT.one = true := by
  intro r hr
  obtain ⟨x, _, rfl⟩ := List.mem_map.1 hr
  exact ⟨rfl, fun c hc => (by cases hc with | head => trivial | tail _ h => cases h), rfl⟩
theorem sr_sealed {σ : Snap} {oo : Option Addr} {oc : Nat} {o : List SRow} (h : ArrSealed σ (srE oo oc o)) (hc : o.length ≤ oc) : SlAt σ oo o.length oc 1 (srRows o) :=
  h.sl (E := srE oo oc o) rfl (fun r hr => ⟨(srRows_all o r hr).1, (srRows_all o r hr).2.1⟩) (by simp [srRows]) rfl hc

set_option maxRecDepth 100000 in
set_option maxHeartbeats 1000000 in
theorem CloneSt_c (σ : Snap) (xs : List ByteArray) (hl : xs.length ≤ 1000000) (ao : Option Addr) (cap : Nat) (H : SlAt σ ao xs.length cap 1 (strRows xs)) :
    FnS Tryd.prog 93 [.a (.v (.slice ao xs.length cap))] σ [] (fun v _ A' => ∃ bo bc, v = .slice bo xs.length bc ∧ xs.length ≤ bc ∧ A' = [stE9 bo bc xs]) := by
  refine enter_f Tryd.func93 rfl rfl (by (repeat' (first | exact trivial | constructor))) fun w => ?_
  (repeat (first | refine cj_seq ?_ | (refine cj_region ?_; refine oj_run TT rfl ?_) | refine oj_then ?_ | (refine oj_slnil TT rfl rfl rfl rfl rfl rfl rfl rfl ?_; refine oj_run TT rfl ?_)))
  refine cj_if rfl (fun h => ?_) (fun h => ?_)
  · have h0 : ao = none := by simpa using h
    have hn0 : xs.length = 0 := by
      rcases H.at_ with h1 | ⟨ad, h1, _⟩
      · exact h1
      · rw [h0] at h1; cases h1
    have hr : xs = [] := List.eq_nil_of_length_eq_zero hn0
    subst hr
    (repeat (first | refine cj_seq ?_ | (refine cj_region ?_; refine oj_run TT rfl ?_) | refine oj_then ?_ | refine cj_ret ?_ | refine nj_then_ret ?_))
    refine nj_nilarr 9 1 ?_
    refine nj_fret TT rfl fun β w' _ _ => ?_
    exact ⟨none, 0, rfl, Nat.le_refl _, rfl⟩
  (repeat (first | refine cj_seq ?_ | (refine cj_region ?_; refine oj_run TT rfl ?_) | refine cj_skip ?_ | refine nj_then ?_))
  refine oj_own 0 0 1 rfl (by (repeat' (first | exact trivial | refine AllLt.of ?_))) rfl (by decide) fun gb => ?_
  refine oj_append_sl TT 0 rfl rfl rfl rfl rfl rfl rfl H rfl rfl rfl rfl rfl rfl rfl rfl rfl (fun r hr => (strRows_all xs r hr).2.2) (by omega) (by show (0 + xs.length) * 16 ≤ _; omega) fun ao' cap' hcap' => oj_run TT rfl ?_
  (repeat (first | refine oj_then ?_ | refine cj_ret ?_))
  refine nj_fret TT rfl fun β w' _ _ => ?_
  refine ⟨ao', cap', by show Value.slice ao' (0 + xs.length) cap' = _; rw [Nat.zero_add], by omega, ?_⟩
  show [_] = [_]
  rw [Nat.zero_add]
  unfold stE9
  rw [strRows_flat]
  rfl

/-! ### Paths -/

def dotS : ByteArray := ⟨#[46]⟩
def elemS : ByteArray := ⟨#[91, 93]⟩
/-- The way to a record, behind the way to the one ahead of it. -/
def pathStep (way : List ByteArray) (r : GRec) : List ByteArray :=
  way.take (r.lv - 1).toNat ++ (if r.nm then [dotS ++ r.name] else if 0 < r.lv then [elemS] else [])
def pathsF : List ByteArray → List GRec → List (List ByteArray)
  | _, [] => []
  | way, r :: l => pathStep way r :: pathsF (pathStep way r) l
def pathsG (L : List GRec) : List (List ByteArray) := pathsF [] L
theorem levelsOk.mono : ∀ {l : List GRec} {m n : Nat}, levelsOk m l → m ≤ n → levelsOk n l
  | [], _, _, _, _ => trivial
  | _ :: _, _, _, ⟨h1, h2, h3⟩, hmn => ⟨h1, by omega, h3⟩

structure PaW where
  way : List ByteArray
  wo : Option Addr
  wc : Nat
structure PaS where
  way : List ByteArray
  wo : Option Addr
  wc : Nat
  out : List SRow
  oo : Option Addr
  oc : Nat

set_option maxRecDepth 100000 in
set_option maxHeartbeats 1000000 in
theorem Paths_c (σ : Snap) (L : List GRec) (R : RecsOk L) (hL : L.length ≤ 100000) (hs : soundG L = true) (hlev : levelsOk 0 L) (ao : Option Addr) (cap : Nat) (H : SlAt σ ao L.length cap 11 (recRows L)) :
    PureS Tryd.prog 53 [.a (.v (.slice ao L.length cap))] σ (fun v σ' => ∃ ps oo oc, v = .slice oo ps.length oc ∧ SlAt σ' oo ps.length oc 1 (srRows ps) ∧ (∀ p ∈ ps, SrOk σ' p) ∧ ps.map SRow.ss = pathsG L) := by
  refine enter_s Tryd.func53 rfl rfl (by (repeat' (first | exact trivial | constructor))) fun w => ?_
  (repeat (first | refine cj_seq ?_ | (refine cj_region ?_; refine oj_run TT rfl ?_) | refine oj_then ?_))
  refine oj_callP rfl rfl rfl rfl rfl Tryd.call24 (by (repeat' (first | exact trivial | constructor))) (Sound_c σ L R.len R.fit R.bw ao cap H) fun v hv => ⟨.a .tt, trivial, by rw [hv, hs]; rfl, ?_⟩
  refine oj_run TT rfl ?_
  (repeat (first | refine cj_seq ?_ | (refine cj_region ?_; refine oj_run TT rfl ?_) | refine oj_then ?_ | refine cj_if_f rfl ?_ | refine cj_skip ?_ | refine cj_block ?_ | refine nj_then ?_))
  refine cj_nilarr 9 1 ?_
  refine cj_nilarr 75 1 ?_
  refine cj_cutB (fun (p : Snap × PaS) => p.1) (fun p => [(3, .a (.v (.slice p.2.oo p.2.out.length p.2.oc)))]) (fun _ => []) (fun p => [stE9 p.2.wo p.2.wc p.2.way, srE p.2.oo p.2.oc p.2.out]) 0
    (fun p => p.2.out.map SRow.ss = pathsG L ∧ (∀ q ∈ p.2.out, SrOk p.1 q) ∧ p.2.out.length ≤ p.2.oc) ?_ (fun p hp => ?_)
  rotate_left
  · obtain ⟨s, way, wo, wc, out, oo, oc⟩ := p
    obtain ⟨h1, h2, h3⟩ := hp
    dsimp only at h1 h2 h3 ⊢
    (repeat (first | refine cj_seq ?_ | (refine cj_region ?_; refine oj_run TT rfl ?_) | refine oj_then ?_ | refine cj_ret ?_))
    refine nj_seal 1 rfl rfl fun σ2 hle2 hS => ?_
    refine nj_ret TT rfl fun β w' _ _ => ?_
    exact ⟨out, oo, oc, rfl, sr_sealed hS h3, fun q hq => (h2 q hq).mono hle2, h1⟩
  refine cj_loop2 (fun (s : Snap) (_ : Nat × PaS) => s) (fun _ t => [(3, .a (.v (.slice t.2.oo t.2.out.length t.2.oc))), (4, .a (.v (.slice t.2.wo t.2.way.length t.2.wc))), (10, .a (.v (.slice ao L.length cap))), (11, .a (.v (.int .i64 L.length))), (12, .a (.v (.int .i64 (t.1 : Nat))))])
    (fun _ _ => []) (fun _ t => [stE9 t.2.wo t.2.wc t.2.way, srE t.2.oo t.2.oc t.2.out]) 0
    (fun s t => σ.le s ∧ t.1 ≤ L.length ∧ t.2.out.map SRow.ss ++ pathsF t.2.way (L.drop t.1) = pathsG L ∧ levelsOk (t.2.way.length + 1) (L.drop t.1) ∧ t.2.way.length ≤ t.1 ∧ t.2.way.length ≤ t.2.wc ∧ t.2.out.length ≤ t.2.oc ∧ t.2.out.length ≤ t.1 ∧ ∀ q ∈ t.2.out, SrOk s q)
    (fun _ t => L.length - t.1) σ (0, ⟨[], none, 0, [], none, 0⟩) ⟨Snap.le_refl _, Nat.zero_le _, rfl, hlev.mono (Nat.zero_le _), Nat.le_refl _, Nat.le_refl _, Nat.le_refl _, Nat.le_refl _, fun _ h => (by cases h)⟩ rfl (by (repeat (first | exact trivial | refine And.intro rfl ?_))) (by (repeat (first | exact trivial | refine And.intro rfl ?_))) rfl (by (repeat' (first | exact trivial | constructor))) (by (repeat' exact trivial)) fun s ⟨k, way, wo, wc, out, oo, oc⟩ ⟨hle, hk, hp, hlv, hwk, hwc, hoc, hok, hout⟩ => ?_
  dsimp only at hk hp hlv hwk hwc hoc hok hout ⊢
  have H := H.mono hle
  (repeat (first | refine cj_seq ?_ | (refine cj_region ?_; refine oj_run TT rfl ?_) | refine oj_then ?_))
  refine cj_if rfl (fun h => ?_) (fun h => ?_)
  rotate_left
  · have hk0 : k = L.length := by have := of_decide_eq_false h; omega
    subst hk0
    rw [List.drop_length, pathsF, List.append_nil] at hp
    (repeat (first | refine cj_exit ?_ | refine nj_then_exit ?_ | refine nj_block_out ?_))
    refine nj_again (s, (⟨way, wo, wc, out, oo, oc⟩ : PaS)) ⟨hp, hout, hoc⟩ Nat.zero_lt_one rfl (by (repeat (first | exact trivial | refine And.intro rfl ?_))) (by (repeat (first | exact trivial | refine And.intro rfl ?_))) rfl (by (repeat' (first | exact trivial | constructor))) (by (repeat' exact trivial))
  have hkl : k < L.length := by have := of_decide_eq_true h; omega
  have hrow := recRows_get (List.getElem?_eq_getElem hkl)
  have hfit := R.fit L[k] (List.getElem_mem hkl)
  rw [List.drop_eq_getElem_cons hkl] at hp hlv
  rw [pathsF] at hp
  generalize L[k] = x at *
  obtain ⟨hlv1, hlv2, hlv3⟩ := hlv
  obtain ⟨j, hj⟩ : ∃ j : Nat, (x.lv - 1).toNat = j := ⟨_, rfl⟩
  have hjw : j ≤ way.length := by omega
  have hps : pathStep way x = way.take j ++ (if x.nm then [dotS ++ x.name] else if 0 < x.lv then [elemS] else []) := by unfold pathStep; rw [hj]
  rw [hps] at hp
  (repeat (first | refine cj_seq ?_ | (refine cj_region ?_; refine oj_run TT rfl ?_) | refine cj_skip ?_ | refine cj_block ?_ | refine nj_then ?_))
  refine oj_idx TT rfl rfl rfl rfl rfl rfl rfl rfl rfl H (by omega) hrow (oj_run TT rfl ?_)
  (repeat (first | refine cj_seq ?_ | (refine cj_region ?_; refine oj_run TT rfl ?_) | refine oj_then ?_ | (refine oj_minus rfl rfl rfl rfl rfl rfl (by omega) ?_; refine oj_run TT rfl ?_)))
  have hmx : (if x.lv - 1 > 0 then x.lv - 1 else 0) = (j : Int) := by split <;> omega
  refine oj_mm rfl rfl rfl rfl rfl rfl rfl (oj_run TT rfl ?_)
  refine oj_slice_to TT j rfl rfl rfl rfl rfl rfl rfl rfl rfl hmx (by omega) hwc (oj_run TT rfl ?_)
  have hl1 : (way.take j).length = j := by rw [List.length_take]; omega
  have hcut : [stE9 wo wc way, srE oo oc out].set 0 (AE.cut (stE9 wo wc way) j) = [stE9 wo wc (way.take j), srE oo oc out] := by
    show [_, _] = [_, _]
    unfold stE9
    rw [hl1]
    simp [AE.cut, strXs, List.map_take]
  refine oj_cutArr 0 j rfl rfl hjw hcut ?_
  have hwcj : j ≤ wc := by omega
  have hjk : j ≤ k := by omega
  generalize way.take j = w1 at *
  subst hl1
  have hname := hfit.2.2
  simp only [mostLen] at hname
  refine oj_then ?_
  refine cj_cut (fun (_ : PaW) => s) (fun q => [(3, .a (.v (.slice oo out.length oc))), (4, .a (.v (.slice q.wo q.way.length q.wc))), (10, .a (.v (.slice ao L.length cap))), (11, .a (.v (.int .i64 L.length))), (12, .a (.v (.int .i64 k)))]) (fun _ => [])
    (fun q => [stE9 q.wo q.wc q.way, srE oo oc out]) 0 (fun q => q.way = w1 ++ (if x.nm then [dotS ++ x.name] else if 0 < x.lv then [elemS] else []) ∧ q.way.length ≤ q.wc) ?_ (fun q hq => ?_)
  · (repeat (first | refine cj_seq ?_ | (refine cj_region ?_; refine oj_run TT rfl ?_) | refine oj_then ?_ | refine cj_block ?_))
    refine cj_if rfl (fun h => ?_) (fun h => ?_)
    · (repeat (refine cj_region ?_; refine oj_run TT rfl ?_))
      refine oj_strcat rfl rfl rfl rfl rfl rfl (by show 1 + x.name.size ≤ _; omega) (oj_run TT rfl ?_)
      refine oj_append_lit TT 0 rfl rfl rfl rfl rfl rfl rfl rfl rfl rfl rfl rfl rfl rfl rfl rfl rfl rfl (by (repeat' (first | exact trivial | refine AllLt.of ?_ | constructor))) rfl (by omega) (by show (w1.length + 1) * 16 ≤ _; omega) fun wo' wc' hwc' => oj_run TT rfl ?_
      (repeat (first | refine oj_nil ?_ | refine nj_block ?_))
      refine nj_again (⟨w1 ++ [dotS ++ x.name], wo', wc'⟩ : PaW) ⟨by dsimp only; rw [if_pos h], by dsimp only; rw [List.length_append]; exact hwc'⟩ Nat.zero_lt_one rfl ?_ (by (repeat (first | exact trivial | refine And.intro rfl ?_))) ?_ (by (repeat' (first | exact trivial | constructor))) (by (repeat' exact trivial))
      · dsimp only
        rw [List.length_append]
        (repeat (first | exact trivial | refine And.intro rfl ?_))
      · show [_, _] = [_, _]
        dsimp only
        unfold stE9 strXs
        rw [List.map_append, List.length_append]
        rfl
    · (repeat (first | refine cj_seq ?_ | (refine cj_region ?_; refine oj_run TT rfl ?_) | refine oj_then ?_))
      refine cj_if rfl (fun h2 => ?_) (fun h2 => ?_)
      · have h2 := of_decide_eq_true h2
        (repeat (refine cj_region ?_; refine oj_run TT rfl ?_))
        refine oj_append_lit TT 0 rfl rfl rfl rfl rfl rfl rfl rfl rfl rfl rfl rfl rfl rfl rfl rfl rfl rfl (by (repeat' (first | exact trivial | refine AllLt.of ?_ | constructor))) rfl (by omega) (by show (w1.length + 1) * 16 ≤ _; omega) fun wo' wc' hwc' => oj_run TT rfl ?_
        (repeat (first | refine oj_nil ?_ | refine nj_block ?_))
        refine nj_again (⟨w1 ++ [elemS], wo', wc'⟩ : PaW) ⟨by dsimp only; rw [h, if_neg (by simp), if_pos (by omega)], by dsimp only; rw [List.length_append]; exact hwc'⟩ Nat.zero_lt_one rfl ?_ (by (repeat (first | exact trivial | refine And.intro rfl ?_))) ?_ (by (repeat' (first | exact trivial | constructor))) (by (repeat' exact trivial))
        · dsimp only
          rw [List.length_append]
          (repeat (first | exact trivial | refine And.intro rfl ?_))
        · show [_, _] = [_, _]
          dsimp only
          unfold stE9 strXs
          rw [List.map_append, List.length_append]
          rfl
      · have h2 := of_decide_eq_false h2
        (repeat (first | refine cj_skip ?_ | refine nj_block ?_))
        refine nj_again (⟨w1, wo, wc⟩ : PaW) ⟨by dsimp only; rw [h, if_neg (by simp), if_neg (by omega), List.append_nil], hwcj⟩ Nat.zero_lt_one rfl (by (repeat (first | exact trivial | refine And.intro rfl ?_))) (by (repeat (first | exact trivial | refine And.intro rfl ?_))) rfl (by (repeat' (first | exact trivial | constructor))) (by (repeat' exact trivial))
  obtain ⟨way', wo', wc'⟩ := q
  obtain ⟨hq, hqc⟩ := hq
  dsimp only at hq hqc ⊢
  rw [← hq] at hp
  have hwl : x.lv.toNat ≤ way'.length ∧ way'.length ≤ k + 1 := by
    rw [hq, List.length_append]
    split
    · rw [List.length_singleton]; omega
    · split
      · rw [List.length_singleton]; omega
      · rw [List.length_nil]; omega
  clear hq hps
  (repeat (refine cj_region ?_; refine oj_run TT rfl ?_))
  refine oj_peekF (Φ := fun v A' => ∃ bo bc, v = .slice bo way'.length bc ∧ way'.length ≤ bc ∧ A' = [stE9 bo bc way']) rfl rfl rfl rfl rfl Tryd.call93 (by (repeat' (first | exact trivial | constructor))) (fun σ' h1 h2 => CloneSt_c σ' way' (by omega) wo' wc' (st9_sealed (h2 0 _ rfl) hqc)) fun v A' ⟨bo, bc, hv, hbc, hA⟩ => ⟨.a (.v (.slice bo way'.length bc)), trivial, hv.symm, ?_⟩
  subst hA
  refine oj_seal 2 rfl rfl rfl fun σ2 hle2 hS => ?_
  have hnew : SrOk σ2 ⟨bo, bc, way'⟩ := ⟨by dsimp only; omega, st9_sealed hS hbc⟩
  refine oj_run TT rfl ?_
  refine oj_append_lit TT 1 rfl rfl rfl rfl rfl rfl rfl rfl rfl rfl rfl rfl rfl rfl rfl rfl rfl rfl (by (repeat' (first | exact trivial | refine AllLt.of ?_ | constructor))) rfl (by omega) (by show (out.length + 1) * 24 ≤ _; omega) fun oo' oc' hoc' => oj_run TT rfl ?_
  (repeat (first | (refine cj_region ?_; refine oj_run TT rfl ?_) | refine oj_nil ?_ | refine nj_then ?_ | refine nj_block ?_ | (refine oj_add rfl rfl rfl rfl rfl rfl (by omega) ?_; refine oj_run TT rfl ?_)))
  refine nj_again (σ2, k + 1, (⟨way', wo', wc', out ++ [⟨bo, bc, way'⟩], oo', oc'⟩ : PaS)) ⟨Snap.le_trans hle hle2, hkl, by dsimp only; rw [List.map_append, List.append_assoc]; exact hp, hlv3.mono (by dsimp only; omega), hwl.2, hqc, by dsimp only; rw [List.length_append]; exact hoc', by dsimp only; rw [List.length_append, List.length_singleton]; omega, fun q hq => ?_⟩ (by dsimp only; omega) rfl ?_ (by (repeat (first | exact trivial | refine And.intro rfl ?_))) ?_ (by (repeat' (first | exact trivial | constructor))) (by (repeat' exact trivial))
  · rcases List.mem_append.1 hq with hq | hq
    · exact (hout q hq).mono hle2
    · rw [List.mem_singleton] at hq; subst hq; exact hnew
  · dsimp only
    rw [List.length_append]
    (repeat (first | exact trivial | refine And.intro rfl ?_))
  · show [_, _] = [_, _]
    dsimp only
    unfold srE
    rw [srXs_append, List.length_append]
    rfl
end Go.Sy
/- Arrays that are made, of elements of several cells. No program in sight. -/
namespace Go.Sy
theorem madeCells_rep (z : List Value) (k : Nat) : (madeCells z.toArray (k * z.length)).toList = (List.replicate k z).flatten := by
  have hall : ∀ r ∈ List.replicate k z, r.length = z.length := fun r hr => by rw [List.eq_of_mem_replicate hr]
  have hl : (List.replicate k z).flatten.length = k * z.length := by rw [flat_len hall, List.length_replicate]
  have hl2 : (madeCells z.toArray (k * z.length)).toList.length = k * z.length := by rw [Array.length_toList, size_madeCells]
  apply List.ext_getElem?
  intro i
  by_cases hi : i < k * z.length
  · have hz : 0 < z.length := by
      rcases Nat.eq_zero_or_pos z.length with h | h
      · rw [h, Nat.mul_zero] at hi; omega
      · exact h
    have hm : i / z.length < k := Nat.div_lt_of_lt_mul (by rw [Nat.mul_comm]; exact hi)
    have hj : i % z.length < z.length := Nat.mod_lt _ hz
    have := flat_get hall (m := i / z.length) (j := i % z.length) (r := z) (c := z[i % z.length]) (by rw [List.getElem?_replicate, if_pos hm]) (List.getElem?_eq_getElem hj)
    rw [Nat.mul_comm, Nat.div_add_mod] at this
    rw [this]
    unfold madeCells
    rw [Array.getElem?_toList, Array.getElem?_map, Array.getElem?_range, if_pos hi]
    simp [hj]
  · rw [List.getElem?_eq_none (by omega), List.getElem?_eq_none (by omega)]
section
variable {cf : Cf} {Q : Exit → Act → World → Prop} {σ : Snap} {env : Env} {hp : HP} {A : List AE} {nh : Nat} {it : Item} {rest : List Item}

/-- 'make([]T, n)'. -/
theorem oj_makeSliceN {d : Nat} {t e n : Nat} {x y : Operand} {T : List (Nat × TI)} (hT : TTok cf.P T) {ti te : TI} (xs : List Value) (hop : it.o.op = .makeSlice t x y) (hd : it.o.dst = some d) (hg : guardVal it.guard env = some true) (hN : Nat.blt d cf.N = true)
    (htg : canSink it.tag = true) (hx : evalO env x = some (.a (.v (.int .i64 n)))) (hy : evalO env y = some (.a (.v (.int .i64 n)))) (ht : tget T t = some ti) (hkt : ti.kind = .slice e) (hte : tget T e = some te)
    (hby : n * te.bytes ≤ 281474976710656) (hmax : n ≤ 1000000000) (hxs : (madeCells (te.zero.map AT.val).toArray (n * te.size)).toList = xs)
    (hk : ∀ g, OJ cf rest Q σ ((d, .a (.v (.slice (some ⟨g, 0, none⟩) n n))) :: env) hp (A ++ [⟨some ⟨g, 0, none⟩, n, n, e, te.size, xs⟩]) nh) : OJ cf (it :: rest) Q σ env hp A nh := by
  refine oj_step hd hg hN htg fun hb a β ha w hw => ?_
  obtain ⟨i1, d1, z1, hs1⟩ := tiOf_spec (hT _ _ ht)
  obtain ⟨i3, d3, z3, hs3⟩ := tiOf_spec (hT _ _ hte)
  have hut : cf.P.underlying t = some (.slice e) := by
    have h1 := hs1.kind
    rw [hkt] at h1
    have h2 := hs1.und
    cases d1 <;> first
      | (simp only [kindD, TK.slice.injEq] at h1; subst h1; exact h2)
      | (simp only [kindD] at h1; cases h1)
  have hz3 : z3.cells = (te.zero.map AT.val).toArray := (zero_den hs3 β0).symm
  have hxl : xs.length = n * te.size := by rw [← hxs, Array.length_toList, size_madeCells]
  have hxe : a.eval x = .int .i64 n := evalO_eval ha hx
  have hye : a.eval y = .int .i64 n := evalO_eval ha hy
  have hrun := run_make (P := cf.P) w t e i3 z3 hut hs3.info hs3.zero .i64 .i64 n n (by omega) (Int.le_refl _) (by rw [hs3.bytes]; rw [← Int.natCast_mul, Nat.mul_comm]; omega) (by omega)
  rw [hs3.size, Int.toNat_natCast, hz3] at hrun
  have hm := ((StW.nilArr e te.size).1 hw).moveArr (i := A.length) (E := ⟨none, 0, 0, e, te.size, []⟩) (E' := ⟨some ⟨w.heap.size, 0, none⟩, n, n, e, te.size, xs⟩) (cur' := madeCells (te.zero.map AT.val).toArray (n * te.size)) (by simp) rfl (Nat.le_refl _) (by simp only [maxLen]; omega) (by dsimp only; exact hxl) (by rw [size_madeCells]) (by dsimp only; rw [hxs, ← hxl, List.take_length])
  have hset : (A ++ [(⟨none, 0, 0, e, te.size, []⟩ : AE)]).set A.length ⟨some ⟨w.heap.size, 0, none⟩, n, n, e, te.size, xs⟩ = A ++ [⟨some ⟨w.heap.size, 0, none⟩, n, n, e, te.size, xs⟩] := by
    rw [List.set_append_right _ _ (Nat.le_refl _), Nat.sub_self]
    rfl
  rw [hset] at hm
  refine ⟨.a (.v (.slice (some ⟨w.heap.size, 0, none⟩) n n)), σ, hp, _, nh, _, β, ?_, ha, hb.put (x := .a (.v (.slice (some ⟨w.heap.size, 0, none⟩) n n))) trivial d, hm.undrew, hk w.heap.size⟩
  simp only [execOp, hop, hxe, hye, Sem.run_bind, hrun, Result.andThen_ok, Sem.run_pure]
  rfl
end

/-! ### A row becomes an array, also where other rows speak of it -/

def concH (h g : Nat) : HP → HP
  | [] => []
  | (i, k, cs) :: l => (i, k, cs.map (conc h g)) :: concH h g l
theorem concH_get {h g : Nat} : ∀ {hp : HP} {i : Nat}, (concH h g hp).get i = (hp.get i).map fun x => (x.1, x.2.map (conc h g))
  | [], _ => rfl
  | (j, k, cs) :: l, i => by
    rw [concH, HP.get_cons, HP.get_cons]
    split
    · rfl
    · exact concH_get
theorem concH_some {h g : Nat} {hp : HP} {i : Nat} {k : HK} {cs' : List AT} (hi : (concH h g hp).get i = some (k, cs')) : ∃ cs, hp.get i = some (k, cs) ∧ cs' = cs.map (conc h g) := by
  rw [concH_get] at hi
  cases hx : hp.get i with
  | none => rw [hx] at hi; cases hi
  | some x =>
    rw [hx] at hi
    obtain ⟨k0, cs⟩ := x
    simp only [Option.map_some, Option.some.injEq, Prod.mk.injEq] at hi
    exact ⟨cs, by rw [hi.1], hi.2.symm⟩
theorem concH_of {h g : Nat} {hp : HP} {i : Nat} {k : HK} {cs : List AT} (hi : hp.get i = some (k, cs)) : (concH h g hp).get i = some (k, cs.map (conc h g)) := by
  rw [concH_get, hi]
  rfl
section
variable {cf : Cf} {σ : Snap} {hp : HP} {A : List AE} {β : Nat → Addr} {w : World}
theorem StW.concH {h g : Nat} (hβ : β h = ⟨g, 0, none⟩) : StW cf σ hp A β w ↔ StW cf σ (concH h g hp) A β w := by
  constructor
  · intro s
    refine ⟨s.os, s.tape, s.output, s.size, s.fr, s.sealed, s.le, s.grow, fun i e cs hi => ?_, fun i cs hi j c hc => ?_, fun i j e e' cs cs' hi hj => ?_, s.arr, s.arrd, fun i j E e cs hE hj => ?_⟩
    · obtain ⟨cs0, h1, rfl⟩ := concH_some hi
      obtain ⟨q1, q2, q3⟩ := s.loc i e cs0 h1
      exact ⟨q1, by rw [concL_den hβ]; exact q2, q3⟩
    · obtain ⟨cs0, h1, rfl⟩ := concH_some hi
      rw [List.getElem?_map] at hc
      cases hc0 : cs0[j]? with
      | none => rw [hc0] at hc; cases hc
      | some c0 =>
        rw [hc0] at hc
        obtain rfl := Option.some.inj hc
        rw [conc_den hβ]
        exact s.ro i cs0 h1 j c0 hc0
    · obtain ⟨c1, h1, rfl⟩ := concH_some hi
      obtain ⟨c2, h2, rfl⟩ := concH_some hj
      exact s.inj i j e e' c1 c2 h1 h2
    · obtain ⟨c1, h1, rfl⟩ := concH_some hj
      exact s.arrh i j E e c1 hE h1
  · intro s
    refine ⟨s.os, s.tape, s.output, s.size, s.fr, s.sealed, s.le, s.grow, fun i e cs hi => ?_, fun i cs hi j c hc => ?_, fun i j e e' cs cs' hi hj => ?_, s.arr, s.arrd, fun i j E e cs hE hj => ?_⟩
    · obtain ⟨q1, q2, q3⟩ := s.loc i e _ (concH_of hi)
      rw [concL_den hβ] at q2
      exact ⟨q1, q2, q3⟩
    · have := s.ro i _ (concH_of hi) j (conc h g c) (by rw [List.getElem?_map, hc]; rfl)
      rw [conc_den hβ] at this
      exact this
    · exact s.inj i j e e' _ _ (concH_of hi) (concH_of hj)
    · exact s.arrh i j E e _ hE (concH_of hj)
end
section
variable {cf : Cf} {Q : Exit → Act → World → Prop} {σ : Snap} {env : Env} {hp : HP} {A : List AE} {nh : Nat}
theorem Bd.concH {h g : Nat} (hb : Bd env hp nh) : Bd env (concH h g hp) nh := by
  refine ⟨hb.env, fun i k cs hi => ?_⟩
  obtain ⟨cs0, h1, rfl⟩ := concH_some hi
  obtain ⟨h2, h3⟩ := hb.hp i k cs0 h1
  refine ⟨h2, fun c hc => ?_⟩
  obtain ⟨c0, h4, rfl⟩ := List.mem_map.1 hc
  exact conc_lt (h3 c0 h4)
theorem oj_ownH {l : List Item} (h : Nat) {e : TypeId} {cs : List AT} (n sz : Nat) (hrow : hp.get h = some (.loc e, cs)) (hcs : ∀ c ∈ cs, c.lt 0) (hlen : cs.length = n * sz) (hn : n ≤ 9223372036854775807)
    (k : ∀ g, OJ cf l Q σ (concE h g env) (concH h g (HP.del h hp)) (A ++ [⟨some ⟨g, 0, none⟩, n, n, e, sz, cs.map AT.val⟩]) nh) : OJ cf l Q σ env hp A nh := by
  refine ⟨fun hb a β ha hex => ?_⟩
  obtain ⟨w, hw⟩ := hex
  have hβ : β h = ⟨(β h).block, 0, none⟩ := (hw.loc h e cs hrow).1
  have e1 : (fun w => StW cf σ hp A β w) = fun w => StW cf σ (concH h (β h).block (HP.del h hp)) (A ++ [⟨some ⟨(β h).block, 0, none⟩, n, n, e, sz, cs.map AT.val⟩]) β w := by
    funext w; exact propext ((StW.own hrow hcs hβ hlen (by simp only [maxLen]; exact hn)).trans (StW.concH hβ))
  rw [e1]
  exact (k _).run hb.conc.concH a β (ha.conc hβ) ⟨w, (congrFun e1 w) ▸ hw⟩
theorem cj_ownH {c : Code} (h : Nat) {e : TypeId} {cs : List AT} (n sz : Nat) (hrow : hp.get h = some (.loc e, cs)) (hcs : ∀ c ∈ cs, c.lt 0) (hlen : cs.length = n * sz) (hn : n ≤ 9223372036854775807)
    (k : ∀ g, CJ cf c Q σ (concE h g env) (concH h g (HP.del h hp)) (A ++ [⟨some ⟨g, 0, none⟩, n, n, e, sz, cs.map AT.val⟩]) nh) : CJ cf c Q σ env hp A nh := by
  refine ⟨fun hb a β w ha hw => ?_⟩
  have hβ : β h = ⟨(β h).block, 0, none⟩ := (hw.loc h e cs hrow).1
  exact (k _).run hb.conc.concH a β w (ha.conc hβ) ((StW.concH hβ).1 ((StW.own hrow hcs hβ hlen (by simp only [maxLen]; exact hn)).1 hw))
end
end Go.Sy
