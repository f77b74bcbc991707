import Derived.Test.YtadnijcgohflhaaDoorF17
import Derived.Test.YtadnijcgohflhaaDoorLb
namespace Go.Sy
open Go.Proofs

/-! ### ShredMoves -/

theorem shredG_ok {g : GVal} {gap : Int} (h1 : 1 ≤ gap) (h2 : gap ≤ 1000) (hs : sane g = 0) : shredG g gap = ((shredV gap g 0 false emptyS 0).1, 0) := by
  unfold shredG
  rw [if_neg (by omega), if_neg (by simp [hs])]

theorem incr_lin (c : Int) : Incr (fun x => 2 * x + c) := fun a b _ h => by dsimp only; omega

/-- The first k records turned. -/
def mkK (f : GRec → GRec) (L : List GRec) (k : Nat) : List GRec := (L.take k).map f ++ L.drop k
theorem mkK_get (f : GRec → GRec) (L : List GRec) (k : Nat) (h : k < L.length) : (mkK f L k)[k]? = some L[k] := by
  unfold mkK
  rw [List.getElem?_append_right (by simp; omega)]
  simp
  rw [Nat.min_eq_left (by omega)]
  simp [h]
theorem mkK_succ (f : GRec → GRec) (L : List GRec) (k : Nat) (h : k < L.length) : (mkK f L k).set k (f L[k]) = mkK f L (k + 1) := by
  unfold mkK
  have hl : ((L.take k).map f).length = k := by simp; omega
  rw [List.set_append_right _ _ (by omega), hl, Nat.sub_self, List.take_succ_eq_append_getElem h, List.drop_eq_getElem_cons h, List.set_cons_zero, List.map_append]
  simp
theorem mkK_len (f : GRec → GRec) (L : List GRec) (k : Nat) (h : k ≤ L.length) : (mkK f L k).length = L.length := by
  unfold mkK
  simp
  omega

set_option maxRecDepth 100000 in
set_option maxHeartbeats 4000000 in
theorem ShredMoves_c (σ : Snap) (g : GVal) (r : List AT) (by_ i : Int) (hr : RepV σ g r) :
    PlainS Tryd.prog 3 [.agg r, .a (.v (.int .i64 by_)), .a (.v (.int .i64 i))] σ (fun v => v = .bool true) := by
  obtain ⟨la, lc, lrows, ma, mc, vrows, rfl, V⟩ := hr.open
  refine enter_p Tryd.func3 rfl rfl (by (repeat' (first | exact trivial | exact Nat.le_of_ble_eq_true rfl | exact vCells_lt _ _ _ _ _ _ | exact decCells_lt _ _ | refine AllLt.of ?_ | refine SV.lt_tup ?_ | exact SV.lt_fn0 | exact AT.lt_fn0 | exact RepV.clo (by assumption) | constructor))) fun w => ?_
  (repeat (first | refine cj_seq ?_ | (refine cj_region ?_; refine oj_run TT rfl ?_) | refine oj_then ?_ | refine oj_nil ?_ | refine cj_if_t rfl ?_ | refine cj_if_f rfl ?_ | refine cj_skip ?_ | refine cj_block ?_ | refine cj_exit ?_ | refine cj_ret ?_ | refine nj_then ?_ | refine nj_then_exit ?_ | refine nj_then_ret ?_ | refine nj_block ?_ | refine nj_block_ret ?_ | refine nj_block_out ?_ | refine nj_block_on rfl ?_ | (refine oj_band rfl rfl rfl rfl rfl rfl ?_; refine oj_run TT rfl ?_) | (refine oj_bor rfl rfl rfl rfl rfl rfl ?_; refine oj_run TT rfl ?_) | (refine oj_bandnot rfl rfl rfl rfl rfl rfl ?_; refine oj_run TT rfl ?_) | (refine oj_conv TT _ rfl rfl rfl rfl rfl rfl rfl rfl rfl ?_; refine oj_run TT rfl ?_) | (refine oj_bshl rfl rfl rfl rfl rfl rfl (by decide) ?_; refine oj_run TT rfl ?_) | (refine oj_bshr rfl rfl rfl rfl rfl rfl (by decide) ?_; refine oj_run TT rfl ?_) | (refine oj_slnil TT rfl rfl rfl rfl rfl rfl rfl rfl ?_; refine oj_run TT rfl ?_) | (refine oj_add rfl rfl rfl rfl rfl rfl (by omega) ?_; refine oj_run TT rfl ?_) | (refine oj_minus rfl rfl rfl rfl rfl rfl (by omega) ?_; refine oj_run TT rfl ?_)))
  refine oj_callP rfl rfl rfl rfl rfl Tryd.call18 (by (repeat' (first | exact trivial | exact Nat.le_of_ble_eq_true rfl | exact vCells_lt _ _ _ _ _ _ | exact decCells_lt _ _ | refine AllLt.of ?_ | refine SV.lt_tup ?_ | exact SV.lt_fn0 | exact AT.lt_fn0 | exact RepV.clo (by assumption) | constructor))) (awake11_c σ) fun v hv => ⟨.a .tt, trivial, hv.symm, ?_⟩
  refine oj_run TT rfl ?_
  (repeat (first | refine cj_seq ?_ | (refine cj_region ?_; refine oj_run TT rfl ?_) | refine oj_then ?_ | refine oj_nil ?_ | refine cj_if_t rfl ?_ | refine cj_if_f rfl ?_ | refine cj_skip ?_ | refine cj_block ?_ | refine cj_exit ?_ | refine cj_ret ?_ | refine nj_then ?_ | refine nj_then_exit ?_ | refine nj_then_ret ?_ | refine nj_block ?_ | refine nj_block_ret ?_ | refine nj_block_out ?_ | refine nj_block_on rfl ?_ | (refine oj_band rfl rfl rfl rfl rfl rfl ?_; refine oj_run TT rfl ?_) | (refine oj_bor rfl rfl rfl rfl rfl rfl ?_; refine oj_run TT rfl ?_) | (refine oj_bandnot rfl rfl rfl rfl rfl rfl ?_; refine oj_run TT rfl ?_) | (refine oj_conv TT _ rfl rfl rfl rfl rfl rfl rfl rfl rfl ?_; refine oj_run TT rfl ?_) | (refine oj_bshl rfl rfl rfl rfl rfl rfl (by decide) ?_; refine oj_run TT rfl ?_) | (refine oj_bshr rfl rfl rfl rfl rfl rfl (by decide) ?_; refine oj_run TT rfl ?_) | (refine oj_slnil TT rfl rfl rfl rfl rfl rfl rfl rfl ?_; refine oj_run TT rfl ?_) | (refine oj_add rfl rfl rfl rfl rfl rfl (by omega) ?_; refine oj_run TT rfl ?_) | (refine oj_minus rfl rfl rfl rfl rfl rfl (by omega) ?_; refine oj_run TT rfl ?_)))
  refine oj_callP rfl rfl rfl rfl rfl Tryd.call19 (by (repeat' (first | exact trivial | exact Nat.le_of_ble_eq_true rfl | exact vCells_lt _ _ _ _ _ _ | exact decCells_lt _ _ | refine AllLt.of ?_ | refine SV.lt_tup ?_ | exact SV.lt_fn0 | exact AT.lt_fn0 | exact RepV.clo (by assumption) | constructor))) (Few_c σ g _ 800 V.rep (by omega) (by omega)) fun v ⟨fb, hv, hfew⟩ => ⟨.a (.b fb), trivial, hv.symm, ?_⟩
  refine oj_run TT rfl ?_
  refine oj_split 20 rfl (fun h => ?_) (fun h => ?_)
  · refine oj_run TT rfl ?_
    (repeat (first | refine cj_seq ?_ | (refine cj_region ?_; refine oj_run TT rfl ?_) | refine oj_then ?_ | refine oj_nil ?_ | refine cj_if_t rfl ?_ | refine cj_if_f rfl ?_ | refine cj_skip ?_ | refine cj_block ?_ | refine cj_exit ?_ | refine cj_ret ?_ | refine nj_then ?_ | refine nj_then_exit ?_ | refine nj_then_ret ?_ | refine nj_block ?_ | refine nj_block_ret ?_ | refine nj_block_out ?_ | refine nj_block_on rfl ?_ | (refine oj_band rfl rfl rfl rfl rfl rfl ?_; refine oj_run TT rfl ?_) | (refine oj_bor rfl rfl rfl rfl rfl rfl ?_; refine oj_run TT rfl ?_) | (refine oj_bandnot rfl rfl rfl rfl rfl rfl ?_; refine oj_run TT rfl ?_) | (refine oj_conv TT _ rfl rfl rfl rfl rfl rfl rfl rfl rfl ?_; refine oj_run TT rfl ?_) | (refine oj_bshl rfl rfl rfl rfl rfl rfl (by decide) ?_; refine oj_run TT rfl ?_) | (refine oj_bshr rfl rfl rfl rfl rfl rfl (by decide) ?_; refine oj_run TT rfl ?_) | (refine oj_slnil TT rfl rfl rfl rfl rfl rfl rfl rfl ?_; refine oj_run TT rfl ?_) | (refine oj_add rfl rfl rfl rfl rfl rfl (by omega) ?_; refine oj_run TT rfl ?_) | (refine oj_minus rfl rfl rfl rfl rfl rfl (by omega) ?_; refine oj_run TT rfl ?_)))
    refine nj_ret TT rfl fun β w' _ _ => ?_
    rfl
  have hw : g.weight ≤ 800 := by
    have := hfew (by simpa using h)
    omega
  refine oj_run TT rfl ?_
  refine oj_callP rfl rfl rfl rfl rfl Tryd.call20 (by (repeat' (first | exact trivial | exact Nat.le_of_ble_eq_true rfl | exact vCells_lt _ _ _ _ _ _ | exact decCells_lt _ _ | refine AllLt.of ?_ | refine SV.lt_tup ?_ | exact SV.lt_fn0 | exact AT.lt_fn0 | exact RepV.clo (by assumption) | constructor))) (Sane_c σ g _ V.rep (by omega)) fun v hv => ⟨.a (.v (.int .i64 (sane g))), trivial, hv.symm, ?_⟩
  refine oj_run TT rfl ?_
  (repeat (first | refine cj_seq ?_ | (refine cj_region ?_; refine oj_run TT rfl ?_) | refine oj_then ?_ | refine oj_nil ?_ | refine cj_if_t rfl ?_ | refine cj_if_f rfl ?_ | refine cj_skip ?_ | refine cj_block ?_ | refine cj_exit ?_ | refine cj_ret ?_ | refine nj_then ?_ | refine nj_then_exit ?_ | refine nj_then_ret ?_ | refine nj_block ?_ | refine nj_block_ret ?_ | refine nj_block_out ?_ | refine nj_block_on rfl ?_ | (refine oj_band rfl rfl rfl rfl rfl rfl ?_; refine oj_run TT rfl ?_) | (refine oj_bor rfl rfl rfl rfl rfl rfl ?_; refine oj_run TT rfl ?_) | (refine oj_bandnot rfl rfl rfl rfl rfl rfl ?_; refine oj_run TT rfl ?_) | (refine oj_conv TT _ rfl rfl rfl rfl rfl rfl rfl rfl rfl ?_; refine oj_run TT rfl ?_) | (refine oj_bshl rfl rfl rfl rfl rfl rfl (by decide) ?_; refine oj_run TT rfl ?_) | (refine oj_bshr rfl rfl rfl rfl rfl rfl (by decide) ?_; refine oj_run TT rfl ?_) | (refine oj_slnil TT rfl rfl rfl rfl rfl rfl rfl rfl ?_; refine oj_run TT rfl ?_) | (refine oj_add rfl rfl rfl rfl rfl rfl (by omega) ?_; refine oj_run TT rfl ?_) | (refine oj_minus rfl rfl rfl rfl rfl rfl (by omega) ?_; refine oj_run TT rfl ?_)))
  refine cj_if rfl (fun h => ?_) (fun h => ?_)
  · (repeat (first | refine cj_seq ?_ | (refine cj_region ?_; refine oj_run TT rfl ?_) | refine oj_then ?_ | refine oj_nil ?_ | refine cj_if_t rfl ?_ | refine cj_if_f rfl ?_ | refine cj_skip ?_ | refine cj_block ?_ | refine cj_exit ?_ | refine cj_ret ?_ | refine nj_then ?_ | refine nj_then_exit ?_ | refine nj_then_ret ?_ | refine nj_block ?_ | refine nj_block_ret ?_ | refine nj_block_out ?_ | refine nj_block_on rfl ?_ | (refine oj_band rfl rfl rfl rfl rfl rfl ?_; refine oj_run TT rfl ?_) | (refine oj_bor rfl rfl rfl rfl rfl rfl ?_; refine oj_run TT rfl ?_) | (refine oj_bandnot rfl rfl rfl rfl rfl rfl ?_; refine oj_run TT rfl ?_) | (refine oj_conv TT _ rfl rfl rfl rfl rfl rfl rfl rfl rfl ?_; refine oj_run TT rfl ?_) | (refine oj_bshl rfl rfl rfl rfl rfl rfl (by decide) ?_; refine oj_run TT rfl ?_) | (refine oj_bshr rfl rfl rfl rfl rfl rfl (by decide) ?_; refine oj_run TT rfl ?_) | (refine oj_slnil TT rfl rfl rfl rfl rfl rfl rfl rfl ?_; refine oj_run TT rfl ?_) | (refine oj_add rfl rfl rfl rfl rfl rfl (by omega) ?_; refine oj_run TT rfl ?_) | (refine oj_minus rfl rfl rfl rfl rfl rfl (by omega) ?_; refine oj_run TT rfl ?_)))
    refine nj_ret TT rfl fun β w' _ _ => ?_
    rfl
  have hs : sane g = 0 := by simpa using h
  have hG := shredG_ok (g := g) (gap := 1) (by omega) (by omega) hs
  obtain ⟨hlen1, hlen2⟩ := shredV_len 1 g 0 false emptyS 0
  have hbd := (shredV_bd (gap := 1) (by omega) g 0 false emptyS 0).2
  have hfit := shredV_fit 1 g _ 0 false emptyS 0 V.rep (by decide)
  have hposL : 0 < (shredV 1 g 0 false emptyS 0).1.length := by rw [shredV_eq]; simp
  have hB : ∀ c : Int, 0 ≤ c → c ≤ 1023 → buildR ((shredV 1 g 0 false emptyS 0).1.map (stE fun x => 2 * x + c)) = (g, 0) := fun c h0 h1 =>
    buildR_shred (incr_lin c) (by omega) (by omega) g V.rep.wf hs (by omega) (by rw [hlen2]; omega)
  have hBG : ∀ c : Int, buildG ((shredV 1 g 0 false emptyS 0).1.map (stE fun x => 2 * x + c)) = (g, []) := fun c => build_shred _ 1 g false emptyS 0 V.rep.wf
  have hnl : ∀ r ∈ (shredV 1 g 0 false emptyS 0).1, r.st < r.en := by
    have := nested_shred (φ := fun x => x) (fun a b _ h => h) (gap := 1) (by omega) g false emptyS (by omega)
    rw [stE_id, List.map_id] at this
    exact nested_lt this
  (repeat (first | refine cj_seq ?_ | (refine cj_region ?_; refine oj_run TT rfl ?_) | refine oj_then ?_ | refine oj_nil ?_ | refine cj_if_t rfl ?_ | refine cj_if_f rfl ?_ | refine cj_skip ?_ | refine cj_block ?_ | refine cj_exit ?_ | refine cj_ret ?_ | refine nj_then ?_ | refine nj_then_exit ?_ | refine nj_then_ret ?_ | refine nj_block ?_ | refine nj_block_ret ?_ | refine nj_block_out ?_ | refine nj_block_on rfl ?_ | (refine oj_band rfl rfl rfl rfl rfl rfl ?_; refine oj_run TT rfl ?_) | (refine oj_bor rfl rfl rfl rfl rfl rfl ?_; refine oj_run TT rfl ?_) | (refine oj_bandnot rfl rfl rfl rfl rfl rfl ?_; refine oj_run TT rfl ?_) | (refine oj_conv TT _ rfl rfl rfl rfl rfl rfl rfl rfl rfl ?_; refine oj_run TT rfl ?_) | (refine oj_bshl rfl rfl rfl rfl rfl rfl (by decide) ?_; refine oj_run TT rfl ?_) | (refine oj_bshr rfl rfl rfl rfl rfl rfl (by decide) ?_; refine oj_run TT rfl ?_) | (refine oj_slnil TT rfl rfl rfl rfl rfl rfl rfl rfl ?_; refine oj_run TT rfl ?_) | (refine oj_add rfl rfl rfl rfl rfl rfl (by omega) ?_; refine oj_run TT rfl ?_) | (refine oj_minus rfl rfl rfl rfl rfl rfl (by omega) ?_; refine oj_run TT rfl ?_)))
  refine oj_callS rfl rfl rfl rfl rfl Tryd.call21 ⟨vCells_lt _ _ _ _ _ _, trivial, trivial⟩ (Shred_s σ g _ 1 V.rep (by omega)) fun v σ1 hle1 ⟨ao, cap, hv, H⟩ => ⟨.tup [.a (.v (.slice ao (shredG g 1).1.length cap)), .a (.v (.int .i64 (shredG g 1).2))], (by (repeat' (first | exact trivial | exact Nat.le_of_ble_eq_true rfl | exact vCells_lt _ _ _ _ _ _ | exact decCells_lt _ _ | refine AllLt.of ?_ | refine SV.lt_tup ?_ | exact SV.lt_fn0 | exact AT.lt_fn0 | exact RepV.clo (by assumption) | constructor))), hv.symm, ?_⟩
  rw [hG] at H ⊢
  dsimp only at H ⊢
  generalize (shredV 1 g 0 false emptyS 0).1 = L at *
  have hLw : L.length ≤ 800 := by omega
  refine oj_run TT rfl ?_
  (repeat (first | refine cj_seq ?_ | (refine cj_region ?_; refine oj_run TT rfl ?_) | refine oj_then ?_ | refine oj_nil ?_ | refine cj_if_t rfl ?_ | refine cj_if_f rfl ?_ | refine cj_skip ?_ | refine cj_block ?_ | refine cj_exit ?_ | refine cj_ret ?_ | refine nj_then ?_ | refine nj_then_exit ?_ | refine nj_then_ret ?_ | refine nj_block ?_ | refine nj_block_ret ?_ | refine nj_block_out ?_ | refine nj_block_on rfl ?_ | (refine oj_band rfl rfl rfl rfl rfl rfl ?_; refine oj_run TT rfl ?_) | (refine oj_bor rfl rfl rfl rfl rfl rfl ?_; refine oj_run TT rfl ?_) | (refine oj_bandnot rfl rfl rfl rfl rfl rfl ?_; refine oj_run TT rfl ?_) | (refine oj_conv TT _ rfl rfl rfl rfl rfl rfl rfl rfl rfl ?_; refine oj_run TT rfl ?_) | (refine oj_bshl rfl rfl rfl rfl rfl rfl (by decide) ?_; refine oj_run TT rfl ?_) | (refine oj_bshr rfl rfl rfl rfl rfl rfl (by decide) ?_; refine oj_run TT rfl ?_) | (refine oj_slnil TT rfl rfl rfl rfl rfl rfl rfl rfl ?_; refine oj_run TT rfl ?_) | (refine oj_add rfl rfl rfl rfl rfl rfl (by omega) ?_; refine oj_run TT rfl ?_) | (refine oj_minus rfl rfl rfl rfl rfl rfl (by omega) ?_; refine oj_run TT rfl ?_)))
  refine oj_split 33 rfl (fun h => absurd h (by decide)) (fun h => ?_)
  refine oj_run TT rfl ?_
  (repeat (first | refine cj_seq ?_ | (refine cj_region ?_; refine oj_run TT rfl ?_) | refine oj_then ?_ | refine oj_nil ?_ | refine cj_if_t rfl ?_ | refine cj_if_f rfl ?_ | refine cj_skip ?_ | refine cj_block ?_ | refine cj_exit ?_ | refine cj_ret ?_ | refine nj_then ?_ | refine nj_then_exit ?_ | refine nj_then_ret ?_ | refine nj_block ?_ | refine nj_block_ret ?_ | refine nj_block_out ?_ | refine nj_block_on rfl ?_ | (refine oj_band rfl rfl rfl rfl rfl rfl ?_; refine oj_run TT rfl ?_) | (refine oj_bor rfl rfl rfl rfl rfl rfl ?_; refine oj_run TT rfl ?_) | (refine oj_bandnot rfl rfl rfl rfl rfl rfl ?_; refine oj_run TT rfl ?_) | (refine oj_conv TT _ rfl rfl rfl rfl rfl rfl rfl rfl rfl ?_; refine oj_run TT rfl ?_) | (refine oj_bshl rfl rfl rfl rfl rfl rfl (by decide) ?_; refine oj_run TT rfl ?_) | (refine oj_bshr rfl rfl rfl rfl rfl rfl (by decide) ?_; refine oj_run TT rfl ?_) | (refine oj_slnil TT rfl rfl rfl rfl rfl rfl rfl rfl ?_; refine oj_run TT rfl ?_) | (refine oj_add rfl rfl rfl rfl rfl rfl (by omega) ?_; refine oj_run TT rfl ?_) | (refine oj_minus rfl rfl rfl rfl rfl rfl (by omega) ?_; refine oj_run TT rfl ?_)))
  refine cj_if rfl (fun h => ?_) (fun h => ?_)
  · have := of_decide_eq_true h
    omega
  have hb2 : ∀ r ∈ L, 0 ≤ r.st ∧ r.st ≤ 1600 ∧ 0 ≤ r.en ∧ r.en ≤ 1600 := fun r hr => by
    have := hbd r hr
    rw [hlen2] at this
    omega
  (repeat (first | refine cj_seq ?_ | (refine cj_region ?_; refine oj_run TT rfl ?_) | refine oj_then ?_ | refine oj_nil ?_ | refine cj_if_t rfl ?_ | refine cj_if_f rfl ?_ | refine cj_skip ?_ | refine cj_block ?_ | refine cj_exit ?_ | refine cj_ret ?_ | refine nj_then ?_ | refine nj_then_exit ?_ | refine nj_then_ret ?_ | refine nj_block ?_ | refine nj_block_ret ?_ | refine nj_block_out ?_ | refine nj_block_on rfl ?_ | (refine oj_band rfl rfl rfl rfl rfl rfl ?_; refine oj_run TT rfl ?_) | (refine oj_bor rfl rfl rfl rfl rfl rfl ?_; refine oj_run TT rfl ?_) | (refine oj_bandnot rfl rfl rfl rfl rfl rfl ?_; refine oj_run TT rfl ?_) | (refine oj_conv TT _ rfl rfl rfl rfl rfl rfl rfl rfl rfl ?_; refine oj_run TT rfl ?_) | (refine oj_bshl rfl rfl rfl rfl rfl rfl (by decide) ?_; refine oj_run TT rfl ?_) | (refine oj_bshr rfl rfl rfl rfl rfl rfl (by decide) ?_; refine oj_run TT rfl ?_) | (refine oj_slnil TT rfl rfl rfl rfl rfl rfl rfl rfl ?_; refine oj_run TT rfl ?_) | (refine oj_add rfl rfl rfl rfl rfl rfl (by omega) ?_; refine oj_run TT rfl ?_) | (refine oj_minus rfl rfl rfl rfl rfl rfl (by omega) ?_; refine oj_run TT rfl ?_)))
  refine oj_own 1 0 11 rfl (by (repeat' (first | exact trivial | exact Nat.le_of_ble_eq_true rfl | exact vCells_lt _ _ _ _ _ _ | exact decCells_lt _ _ | refine AllLt.of ?_ | refine SV.lt_tup ?_ | exact SV.lt_fn0 | exact AT.lt_fn0 | exact RepV.clo (by assumption) | constructor))) rfl (by decide) fun g0 => ?_
  refine oj_append_sl TT 0 rfl rfl rfl rfl rfl rfl rfl H rfl rfl rfl rfl rfl rfl rfl rfl rfl (fun r hr => (recRows_all _ r hr).2.2) (by omega) (by show (0 + L.length) * 112 ≤ _; omega) fun aoM capM hcapM => ?_
  rw [Nat.zero_add L.length] at hcapM ⊢
  refine oj_run TT rfl ?_
  (repeat (first | refine cj_seq ?_ | (refine cj_region ?_; refine oj_run TT rfl ?_) | refine oj_then ?_ | refine oj_nil ?_ | refine cj_if_t rfl ?_ | refine cj_if_f rfl ?_ | refine cj_skip ?_ | refine cj_block ?_ | refine cj_exit ?_ | refine cj_ret ?_ | refine nj_then ?_ | refine nj_then_exit ?_ | refine nj_then_ret ?_ | refine nj_block ?_ | refine nj_block_ret ?_ | refine nj_block_out ?_ | refine nj_block_on rfl ?_ | (refine oj_band rfl rfl rfl rfl rfl rfl ?_; refine oj_run TT rfl ?_) | (refine oj_bor rfl rfl rfl rfl rfl rfl ?_; refine oj_run TT rfl ?_) | (refine oj_bandnot rfl rfl rfl rfl rfl rfl ?_; refine oj_run TT rfl ?_) | (refine oj_conv TT _ rfl rfl rfl rfl rfl rfl rfl rfl rfl ?_; refine oj_run TT rfl ?_) | (refine oj_bshl rfl rfl rfl rfl rfl rfl (by decide) ?_; refine oj_run TT rfl ?_) | (refine oj_bshr rfl rfl rfl rfl rfl rfl (by decide) ?_; refine oj_run TT rfl ?_) | (refine oj_slnil TT rfl rfl rfl rfl rfl rfl rfl rfl ?_; refine oj_run TT rfl ?_) | (refine oj_add rfl rfl rfl rfl rfl rfl (by omega) ?_; refine oj_run TT rfl ?_) | (refine oj_minus rfl rfl rfl rfl rfl rfl (by omega) ?_; refine oj_run TT rfl ?_)))
  refine oj_own 2 0 11 rfl (by (repeat' (first | exact trivial | exact Nat.le_of_ble_eq_true rfl | exact vCells_lt _ _ _ _ _ _ | exact decCells_lt _ _ | refine AllLt.of ?_ | refine SV.lt_tup ?_ | exact SV.lt_fn0 | exact AT.lt_fn0 | exact RepV.clo (by assumption) | constructor))) rfl (by decide) fun g0' => ?_
  refine oj_append_sl TT 1 rfl rfl rfl rfl rfl rfl rfl H rfl rfl rfl rfl rfl rfl rfl rfl rfl (fun r hr => (recRows_all _ r hr).2.2) (by omega) (by show (0 + L.length) * 112 ≤ _; omega) fun aoN capN hcapN => ?_
  rw [Nat.zero_add L.length] at hcapN ⊢
  refine oj_run TT rfl ?_
  refine oj_arrAt 0 (E := rE aoM L.length capM L) rfl hposL fun gm hgm => ?_
  have hgm : aoM = some ⟨gm, 0, none⟩ := hgm
  subst hgm
  refine oj_arrAt 1 (E := rE aoN L.length capN L) rfl hposL fun gn hgn => ?_
  have hgn : aoN = some ⟨gn, 0, none⟩ := hgn
  subst hgn
  (repeat (first | refine cj_seq ?_ | (refine cj_region ?_; refine oj_run TT rfl ?_) | refine oj_then ?_ | refine oj_nil ?_ | refine cj_if_t rfl ?_ | refine cj_if_f rfl ?_ | refine cj_skip ?_ | refine cj_block ?_ | refine cj_exit ?_ | refine cj_ret ?_ | refine nj_then ?_ | refine nj_then_exit ?_ | refine nj_then_ret ?_ | refine nj_block ?_ | refine nj_block_ret ?_ | refine nj_block_out ?_ | refine nj_block_on rfl ?_ | (refine oj_band rfl rfl rfl rfl rfl rfl ?_; refine oj_run TT rfl ?_) | (refine oj_bor rfl rfl rfl rfl rfl rfl ?_; refine oj_run TT rfl ?_) | (refine oj_bandnot rfl rfl rfl rfl rfl rfl ?_; refine oj_run TT rfl ?_) | (refine oj_conv TT _ rfl rfl rfl rfl rfl rfl rfl rfl rfl ?_; refine oj_run TT rfl ?_) | (refine oj_bshl rfl rfl rfl rfl rfl rfl (by decide) ?_; refine oj_run TT rfl ?_) | (refine oj_bshr rfl rfl rfl rfl rfl rfl (by decide) ?_; refine oj_run TT rfl ?_) | (refine oj_slnil TT rfl rfl rfl rfl rfl rfl rfl rfl ?_; refine oj_run TT rfl ?_) | (refine oj_add rfl rfl rfl rfl rfl rfl (by omega) ?_; refine oj_run TT rfl ?_) | (refine oj_minus rfl rfl rfl rfl rfl rfl (by omega) ?_; refine oj_run TT rfl ?_)))
  have hc := bAnd_le by_ 1023 (by omega) (by omega)
  generalize hcc : bAnd .i64 by_ 1023 = c at hc
  refine cj_cutB (α := Unit) (fun _ => σ1) (fun _ => [(2, .a (.v (.int .i64 i))), (3, .a (.p 0 0)), (7, .a .tt), (8, .a (.v (.slice ao L.length cap))), (10, .a (.v (.slice (some ⟨gm, 0, none⟩) L.length capM))), (11, .a (.v (.slice (some ⟨gn, 0, none⟩) L.length capN)))])
    (fun _ => [(0, .loc 27, vCells g la lc ma mc)]) (fun _ => [rE (some ⟨gm, 0, none⟩) L.length capM (L.map (stE fun x => 2 * x + c)), rE (some ⟨gn, 0, none⟩) L.length capN L]) 1 (fun _ => True) ?_ (fun _ _ => ?_)
  · refine cj_loop (fun (_ : Nat) => σ1) (fun k => [(1, .a (.v (.int .i64 by_))), (2, .a (.v (.int .i64 i))), (3, .a (.p 0 0)), (7, .a .tt), (8, .a (.v (.slice ao L.length cap))), (10, .a (.v (.slice (some ⟨gm, 0, none⟩) L.length capM))), (11, .a (.v (.slice (some ⟨gn, 0, none⟩) L.length capN))), (12, .a (.v (.int .i64 k)))])
      (fun _ => [(0, .loc 27, vCells g la lc ma mc)]) (fun k => [rE (some ⟨gm, 0, none⟩) L.length capM (mkK (stE fun x => 2 * x + c) L k), rE (some ⟨gn, 0, none⟩) L.length capN L]) 1 (fun k => k ≤ L.length) (fun k => L.length - k) 0 (Nat.zero_le _) rfl (by (repeat (first | exact trivial | refine And.intro rfl ?_))) (by (repeat (first | exact trivial | refine And.intro rfl ?_))) rfl (by (repeat' (first | exact trivial | exact Nat.le_of_ble_eq_true rfl | exact vCells_lt _ _ _ _ _ _ | exact decCells_lt _ _ | refine AllLt.of ?_ | refine SV.lt_tup ?_ | exact SV.lt_fn0 | exact AT.lt_fn0 | exact RepV.clo (by assumption) | constructor))) (by (repeat' (first | exact trivial | exact Nat.le_of_ble_eq_true rfl | exact vCells_lt _ _ _ _ _ _ | exact decCells_lt _ _ | refine AllLt.of ?_ | refine SV.lt_tup ?_ | exact SV.lt_fn0 | exact AT.lt_fn0 | exact RepV.clo (by assumption) | constructor))) fun k hk => ?_
    (repeat (first | refine cj_seq ?_ | (refine cj_region ?_; refine oj_run TT rfl ?_) | refine oj_then ?_ | refine oj_nil ?_ | refine cj_if_t rfl ?_ | refine cj_if_f rfl ?_ | refine cj_skip ?_ | refine cj_block ?_ | refine cj_exit ?_ | refine cj_ret ?_ | refine nj_then ?_ | refine nj_then_exit ?_ | refine nj_then_ret ?_ | refine nj_block ?_ | refine nj_block_ret ?_ | refine nj_block_out ?_ | refine nj_block_on rfl ?_ | (refine oj_band rfl rfl rfl rfl rfl rfl ?_; refine oj_run TT rfl ?_) | (refine oj_bor rfl rfl rfl rfl rfl rfl ?_; refine oj_run TT rfl ?_) | (refine oj_bandnot rfl rfl rfl rfl rfl rfl ?_; refine oj_run TT rfl ?_) | (refine oj_conv TT _ rfl rfl rfl rfl rfl rfl rfl rfl rfl ?_; refine oj_run TT rfl ?_) | (refine oj_bshl rfl rfl rfl rfl rfl rfl (by decide) ?_; refine oj_run TT rfl ?_) | (refine oj_bshr rfl rfl rfl rfl rfl rfl (by decide) ?_; refine oj_run TT rfl ?_) | (refine oj_slnil TT rfl rfl rfl rfl rfl rfl rfl rfl ?_; refine oj_run TT rfl ?_) | (refine oj_add rfl rfl rfl rfl rfl rfl (by omega) ?_; refine oj_run TT rfl ?_) | (refine oj_minus rfl rfl rfl rfl rfl rfl (by omega) ?_; refine oj_run TT rfl ?_)))
    refine cj_if rfl (fun h => ?_) (fun h => ?_)
    rotate_left
    · have hk0 : k = L.length := by have := of_decide_eq_false h; omega
      subst hk0
      (repeat (first | refine cj_seq ?_ | (refine cj_region ?_; refine oj_run TT rfl ?_) | refine oj_then ?_ | refine oj_nil ?_ | refine cj_if_t rfl ?_ | refine cj_if_f rfl ?_ | refine cj_skip ?_ | refine cj_block ?_ | refine cj_exit ?_ | refine cj_ret ?_ | refine nj_then ?_ | refine nj_then_exit ?_ | refine nj_then_ret ?_ | refine nj_block ?_ | refine nj_block_ret ?_ | refine nj_block_out ?_ | refine nj_block_on rfl ?_ | (refine oj_band rfl rfl rfl rfl rfl rfl ?_; refine oj_run TT rfl ?_) | (refine oj_bor rfl rfl rfl rfl rfl rfl ?_; refine oj_run TT rfl ?_) | (refine oj_bandnot rfl rfl rfl rfl rfl rfl ?_; refine oj_run TT rfl ?_) | (refine oj_conv TT _ rfl rfl rfl rfl rfl rfl rfl rfl rfl ?_; refine oj_run TT rfl ?_) | (refine oj_bshl rfl rfl rfl rfl rfl rfl (by decide) ?_; refine oj_run TT rfl ?_) | (refine oj_bshr rfl rfl rfl rfl rfl rfl (by decide) ?_; refine oj_run TT rfl ?_) | (refine oj_slnil TT rfl rfl rfl rfl rfl rfl rfl rfl ?_; refine oj_run TT rfl ?_) | (refine oj_add rfl rfl rfl rfl rfl rfl (by omega) ?_; refine oj_run TT rfl ?_) | (refine oj_minus rfl rfl rfl rfl rfl rfl (by omega) ?_; refine oj_run TT rfl ?_)))
      refine nj_again () trivial Nat.zero_lt_one rfl (by (repeat (first | exact trivial | refine And.intro rfl ?_))) (by (repeat (first | exact trivial | refine And.intro rfl ?_))) ?_ (by (repeat' (first | exact trivial | exact Nat.le_of_ble_eq_true rfl | exact vCells_lt _ _ _ _ _ _ | exact decCells_lt _ _ | refine AllLt.of ?_ | refine SV.lt_tup ?_ | exact SV.lt_fn0 | exact AT.lt_fn0 | exact RepV.clo (by assumption) | constructor))) (by (repeat' (first | exact trivial | exact Nat.le_of_ble_eq_true rfl | exact vCells_lt _ _ _ _ _ _ | exact decCells_lt _ _ | refine AllLt.of ?_ | refine SV.lt_tup ?_ | exact SV.lt_fn0 | exact AT.lt_fn0 | exact RepV.clo (by assumption) | constructor)))
      simp [mkK]
    have hkl : k < L.length := by have := of_decide_eq_true h; omega
    have hb := hb2 L[k] (List.getElem_mem hkl)
    have hM0 := mkK_get (stE fun x => 2 * x + c) L k hkl
    have hS := mkK_succ (stE fun x => 2 * x + c) L k hkl
    have hlenM := mkK_len (stE fun x => 2 * x + c) L k hk
    generalize hx : L[k] = x at *
    let x1 : GRec := ⟨2 * x.st + c, x.en, x.lv, x.kd, x.nm, x.name, x.b, x.n, x.s⟩
    have hM1 : ((mkK (stE fun x => 2 * x + c) L k).set k x1)[k]? = some x1 := by rw [List.getElem?_set_self (by omega)]
    have hS1 : ((mkK (stE fun x => 2 * x + c) L k).set k x1).set k (stE (fun x => 2 * x + c) x) = mkK (stE fun x => 2 * x + c) L (k + 1) := by rw [List.set_set]; exact hS
    have hoff : ∀ j, j < 11 → k * 11 + j < L.length * 11 := fun j hj => by omega
    have had : ∀ j, some (SV.a (AT.v (.pointer (some (Addr.add (Addr.add ⟨gm, 0, none⟩ ((k : Int).toNat * 11)) j))))) = some (SV.a (AT.v (.pointer (some ⟨gm, k * 11 + j, none⟩)))) := fun j => by rw [add0, Addr.add_lit]; rfl
    (repeat (first | refine cj_seq ?_ | (refine cj_region ?_; refine oj_run TT rfl ?_) | refine oj_then ?_ | refine oj_nil ?_ | refine cj_if_t rfl ?_ | refine cj_if_f rfl ?_ | refine cj_skip ?_ | refine cj_block ?_ | refine cj_exit ?_ | refine cj_ret ?_ | refine nj_then ?_ | refine nj_then_exit ?_ | refine nj_then_ret ?_ | refine nj_block ?_ | refine nj_block_ret ?_ | refine nj_block_out ?_ | refine nj_block_on rfl ?_ | (refine oj_band rfl rfl rfl rfl rfl rfl ?_; refine oj_run TT rfl ?_) | (refine oj_bor rfl rfl rfl rfl rfl rfl ?_; refine oj_run TT rfl ?_) | (refine oj_bandnot rfl rfl rfl rfl rfl rfl ?_; refine oj_run TT rfl ?_) | (refine oj_conv TT _ rfl rfl rfl rfl rfl rfl rfl rfl rfl ?_; refine oj_run TT rfl ?_) | (refine oj_bshl rfl rfl rfl rfl rfl rfl (by decide) ?_; refine oj_run TT rfl ?_) | (refine oj_bshr rfl rfl rfl rfl rfl rfl (by decide) ?_; refine oj_run TT rfl ?_) | (refine oj_slnil TT rfl rfl rfl rfl rfl rfl rfl rfl ?_; refine oj_run TT rfl ?_) | (refine oj_add rfl rfl rfl rfl rfl rfl (by omega) ?_; refine oj_run TT rfl ?_) | (refine oj_minus rfl rfl rfl rfl rfl rfl (by omega) ?_; refine oj_run TT rfl ?_)))
    refine oj_indexAddr TT rfl rfl rfl rfl rfl rfl rfl rfl rfl ⟨by omega, by omega⟩ (oj_run TT rfl ?_)
    refine oj_ldA 0 (off := k * 11 + 0) (c := .v (.int .i64 x.st)) TT rfl rfl rfl rfl rfl (had 0) rfl rfl rfl rfl (recXs_get hM0 rfl) trivial (oj_run TT rfl ?_)
    refine oj_mul rfl rfl rfl rfl rfl rfl (by omega) (oj_run TT rfl ?_)
    refine oj_band rfl rfl rfl rfl rfl rfl ?_
    rw [hcc]
    refine oj_run TT rfl ?_
    refine oj_add rfl rfl rfl rfl rfl rfl (by omega) (oj_run TT rfl ?_)
    refine oj_indexAddr TT rfl rfl rfl rfl rfl rfl rfl rfl rfl ⟨by omega, by omega⟩ (oj_run TT rfl ?_)
    refine oj_stA 0 (off := k * 11 + 0) (A' := [rE (some ⟨gm, 0, none⟩) L.length capM ((mkK (stE fun x => 2 * x + c) L k).set k x1), rE (some ⟨gn, 0, none⟩) L.length capN L]) TT rfl rfl rfl rfl (had 0) rfl rfl rfl rfl rfl (hoff 0 (by omega)) trivial rfl ?_ (oj_run TT rfl ?_)
    · show [_, _] = [_, _]
      congr 1
      unfold rE
      congr 1
      exact recXs_set (r' := x1) (.v (.int .i64 (2 * x.st + c))) hM0 (by omega) rfl
    (repeat (first | refine cj_seq ?_ | (refine cj_region ?_; refine oj_run TT rfl ?_) | refine oj_then ?_ | refine oj_nil ?_ | refine cj_if_t rfl ?_ | refine cj_if_f rfl ?_ | refine cj_skip ?_ | refine cj_block ?_ | refine cj_exit ?_ | refine cj_ret ?_ | refine nj_then ?_ | refine nj_then_exit ?_ | refine nj_then_ret ?_ | refine nj_block ?_ | refine nj_block_ret ?_ | refine nj_block_out ?_ | refine nj_block_on rfl ?_ | (refine oj_band rfl rfl rfl rfl rfl rfl ?_; refine oj_run TT rfl ?_) | (refine oj_bor rfl rfl rfl rfl rfl rfl ?_; refine oj_run TT rfl ?_) | (refine oj_bandnot rfl rfl rfl rfl rfl rfl ?_; refine oj_run TT rfl ?_) | (refine oj_conv TT _ rfl rfl rfl rfl rfl rfl rfl rfl rfl ?_; refine oj_run TT rfl ?_) | (refine oj_bshl rfl rfl rfl rfl rfl rfl (by decide) ?_; refine oj_run TT rfl ?_) | (refine oj_bshr rfl rfl rfl rfl rfl rfl (by decide) ?_; refine oj_run TT rfl ?_) | (refine oj_slnil TT rfl rfl rfl rfl rfl rfl rfl rfl ?_; refine oj_run TT rfl ?_) | (refine oj_add rfl rfl rfl rfl rfl rfl (by omega) ?_; refine oj_run TT rfl ?_) | (refine oj_minus rfl rfl rfl rfl rfl rfl (by omega) ?_; refine oj_run TT rfl ?_)))
    refine oj_indexAddr TT rfl rfl rfl rfl rfl rfl rfl rfl rfl ⟨by omega, by omega⟩ (oj_run TT rfl ?_)
    refine oj_ldA 0 (off := k * 11 + 1) (c := .v (.int .i64 x.en)) TT rfl rfl rfl rfl rfl (had 1) rfl rfl rfl rfl (recXs_get hM1 rfl) trivial (oj_run TT rfl ?_)
    refine oj_mul rfl rfl rfl rfl rfl rfl (by omega) (oj_run TT rfl ?_)
    refine oj_band rfl rfl rfl rfl rfl rfl ?_
    rw [hcc]
    refine oj_run TT rfl ?_
    refine oj_add rfl rfl rfl rfl rfl rfl (by omega) (oj_run TT rfl ?_)
    refine oj_indexAddr TT rfl rfl rfl rfl rfl rfl rfl rfl rfl ⟨by omega, by omega⟩ (oj_run TT rfl ?_)
    refine oj_stA 0 (off := k * 11 + 1) (A' := [rE (some ⟨gm, 0, none⟩) L.length capM (mkK (stE fun x => 2 * x + c) L (k + 1)), rE (some ⟨gn, 0, none⟩) L.length capN L]) TT rfl rfl rfl rfl (had 1) rfl rfl rfl rfl rfl (hoff 1 (by omega)) trivial rfl ?_ (oj_run TT rfl ?_)
    · show [_, _] = [_, _]
      congr 1
      unfold rE
      congr 1
      rw [← hS1]
      exact recXs_set (r' := stE (fun x => 2 * x + c) x) (.v (.int .i64 (2 * x.en + c))) hM1 (by omega) rfl
    (repeat (first | refine cj_seq ?_ | (refine cj_region ?_; refine oj_run TT rfl ?_) | refine oj_then ?_ | refine oj_nil ?_ | refine cj_if_t rfl ?_ | refine cj_if_f rfl ?_ | refine cj_skip ?_ | refine cj_block ?_ | refine cj_exit ?_ | refine cj_ret ?_ | refine nj_then ?_ | refine nj_then_exit ?_ | refine nj_then_ret ?_ | refine nj_block ?_ | refine nj_block_ret ?_ | refine nj_block_out ?_ | refine nj_block_on rfl ?_ | (refine oj_band rfl rfl rfl rfl rfl rfl ?_; refine oj_run TT rfl ?_) | (refine oj_bor rfl rfl rfl rfl rfl rfl ?_; refine oj_run TT rfl ?_) | (refine oj_bandnot rfl rfl rfl rfl rfl rfl ?_; refine oj_run TT rfl ?_) | (refine oj_conv TT _ rfl rfl rfl rfl rfl rfl rfl rfl rfl ?_; refine oj_run TT rfl ?_) | (refine oj_bshl rfl rfl rfl rfl rfl rfl (by decide) ?_; refine oj_run TT rfl ?_) | (refine oj_bshr rfl rfl rfl rfl rfl rfl (by decide) ?_; refine oj_run TT rfl ?_) | (refine oj_slnil TT rfl rfl rfl rfl rfl rfl rfl rfl ?_; refine oj_run TT rfl ?_) | (refine oj_add rfl rfl rfl rfl rfl rfl (by omega) ?_; refine oj_run TT rfl ?_) | (refine oj_minus rfl rfl rfl rfl rfl rfl (by omega) ?_; refine oj_run TT rfl ?_)))
    refine nj_again (k + 1) hkl (by omega) rfl (by (repeat (first | exact trivial | refine And.intro rfl ?_))) (by (repeat (first | exact trivial | refine And.intro rfl ?_))) rfl (by (repeat' (first | exact trivial | exact Nat.le_of_ble_eq_true rfl | exact vCells_lt _ _ _ _ _ _ | exact decCells_lt _ _ | refine AllLt.of ?_ | refine SV.lt_tup ?_ | exact SV.lt_fn0 | exact AT.lt_fn0 | exact RepV.clo (by assumption) | constructor))) (by (repeat' (first | exact trivial | exact Nat.le_of_ble_eq_true rfl | exact vCells_lt _ _ _ _ _ _ | exact decCells_lt _ _ | refine AllLt.of ?_ | refine SV.lt_tup ?_ | exact SV.lt_fn0 | exact AT.lt_fn0 | exact RepV.clo (by assumption) | constructor)))
  have hmask := bAnd_le i 65535 (by omega) (by omega)
  (repeat (first | refine cj_seq ?_ | (refine cj_region ?_; refine oj_run TT rfl ?_) | refine oj_then ?_ | refine oj_nil ?_ | refine cj_if_t rfl ?_ | refine cj_if_f rfl ?_ | refine cj_skip ?_ | refine cj_block ?_ | refine cj_exit ?_ | refine cj_ret ?_ | refine nj_then ?_ | refine nj_then_exit ?_ | refine nj_then_ret ?_ | refine nj_block ?_ | refine nj_block_ret ?_ | refine nj_block_out ?_ | refine nj_block_on rfl ?_ | (refine oj_band rfl rfl rfl rfl rfl rfl ?_; refine oj_run TT rfl ?_) | (refine oj_bor rfl rfl rfl rfl rfl rfl ?_; refine oj_run TT rfl ?_) | (refine oj_bandnot rfl rfl rfl rfl rfl rfl ?_; refine oj_run TT rfl ?_) | (refine oj_conv TT _ rfl rfl rfl rfl rfl rfl rfl rfl rfl ?_; refine oj_run TT rfl ?_) | (refine oj_bshl rfl rfl rfl rfl rfl rfl (by decide) ?_; refine oj_run TT rfl ?_) | (refine oj_bshr rfl rfl rfl rfl rfl rfl (by decide) ?_; refine oj_run TT rfl ?_) | (refine oj_slnil TT rfl rfl rfl rfl rfl rfl rfl rfl ?_; refine oj_run TT rfl ?_) | (refine oj_add rfl rfl rfl rfl rfl rfl (by omega) ?_; refine oj_run TT rfl ?_) | (refine oj_minus rfl rfl rfl rfl rfl rfl (by omega) ?_; refine oj_run TT rfl ?_)))
  generalize bAnd .i64 i 65535 = m at hmask ⊢
  refine oj_rem rfl rfl rfl rfl rfl rfl (by omega) ?_
  obtain ⟨j, hj⟩ : ∃ j : Nat, m.tmod L.length = j := ⟨(m.tmod L.length).toNat, by
    have := Int.tmod_nonneg (L.length : Int) hmask.1
    omega⟩
  have hjl : j < L.length := by
    have := Int.tmod_lt_of_pos m (show (0 : Int) < L.length by omega)
    omega
  rw [hj]
  refine oj_run TT rfl ?_
  have hrow := recRows_get (List.getElem?_eq_getElem hjl)
  have hM0 : L[j]? = some L[j] := List.getElem?_eq_getElem hjl
  have hlt := hnl L[j] (List.getElem_mem hjl)
  have hfitx := hfit L[j] (List.getElem_mem hjl)
  generalize hx : L[j] = x at *
  let x1 : GRec := ⟨x.en, x.en, x.lv, x.kd, x.nm, x.name, x.b, x.n, x.s⟩
  let x2 : GRec := ⟨x.en, x.st, x.lv, x.kd, x.nm, x.name, x.b, x.n, x.s⟩
  have hM1 : (L.set j x1)[j]? = some x1 := by rw [List.getElem?_set_self hjl]
  have hoff : ∀ q, q < 11 → j * 11 + q < L.length * 11 := fun q hq => by omega
  have had : ∀ q, some (SV.a (AT.v (.pointer (some (Addr.add (Addr.add ⟨gn, 0, none⟩ ((j : Int).toNat * 11)) q))))) = some (SV.a (AT.v (.pointer (some ⟨gn, j * 11 + q, none⟩)))) := fun q => by rw [add0, Addr.add_lit]; rfl
  (repeat (first | refine cj_seq ?_ | (refine cj_region ?_; refine oj_run TT rfl ?_) | refine oj_then ?_ | refine oj_nil ?_ | refine cj_if_t rfl ?_ | refine cj_if_f rfl ?_ | refine cj_skip ?_ | refine cj_block ?_ | refine cj_exit ?_ | refine cj_ret ?_ | refine nj_then ?_ | refine nj_then_exit ?_ | refine nj_then_ret ?_ | refine nj_block ?_ | refine nj_block_ret ?_ | refine nj_block_out ?_ | refine nj_block_on rfl ?_ | (refine oj_band rfl rfl rfl rfl rfl rfl ?_; refine oj_run TT rfl ?_) | (refine oj_bor rfl rfl rfl rfl rfl rfl ?_; refine oj_run TT rfl ?_) | (refine oj_bandnot rfl rfl rfl rfl rfl rfl ?_; refine oj_run TT rfl ?_) | (refine oj_conv TT _ rfl rfl rfl rfl rfl rfl rfl rfl rfl ?_; refine oj_run TT rfl ?_) | (refine oj_bshl rfl rfl rfl rfl rfl rfl (by decide) ?_; refine oj_run TT rfl ?_) | (refine oj_bshr rfl rfl rfl rfl rfl rfl (by decide) ?_; refine oj_run TT rfl ?_) | (refine oj_slnil TT rfl rfl rfl rfl rfl rfl rfl rfl ?_; refine oj_run TT rfl ?_) | (refine oj_add rfl rfl rfl rfl rfl rfl (by omega) ?_; refine oj_run TT rfl ?_) | (refine oj_minus rfl rfl rfl rfl rfl rfl (by omega) ?_; refine oj_run TT rfl ?_)))
  refine oj_idx TT rfl rfl rfl rfl rfl rfl rfl rfl rfl H (by omega) hrow (oj_run TT rfl ?_)
  refine oj_indexAddr TT rfl rfl rfl rfl rfl rfl rfl rfl rfl ⟨by omega, by omega⟩ (oj_run TT rfl ?_)
  refine oj_stA 1 (off := j * 11 + 0) (A' := [rE (some ⟨gm, 0, none⟩) L.length capM (L.map (stE fun x => 2 * x + c)), rE (some ⟨gn, 0, none⟩) L.length capN (L.set j x1)]) TT rfl rfl rfl rfl (had 0) rfl rfl rfl rfl rfl (hoff 0 (by omega)) trivial rfl ?_ (oj_run TT rfl ?_)
  · show [_, _] = [_, _]
    congr 1
    congr 1
    unfold rE
    congr 1
    exact recXs_set (r' := x1) (.v (.int .i64 x.en)) hM0 (by omega) rfl
  (repeat (first | refine cj_seq ?_ | (refine cj_region ?_; refine oj_run TT rfl ?_) | refine oj_then ?_ | refine oj_nil ?_ | refine cj_if_t rfl ?_ | refine cj_if_f rfl ?_ | refine cj_skip ?_ | refine cj_block ?_ | refine cj_exit ?_ | refine cj_ret ?_ | refine nj_then ?_ | refine nj_then_exit ?_ | refine nj_then_ret ?_ | refine nj_block ?_ | refine nj_block_ret ?_ | refine nj_block_out ?_ | refine nj_block_on rfl ?_ | (refine oj_band rfl rfl rfl rfl rfl rfl ?_; refine oj_run TT rfl ?_) | (refine oj_bor rfl rfl rfl rfl rfl rfl ?_; refine oj_run TT rfl ?_) | (refine oj_bandnot rfl rfl rfl rfl rfl rfl ?_; refine oj_run TT rfl ?_) | (refine oj_conv TT _ rfl rfl rfl rfl rfl rfl rfl rfl rfl ?_; refine oj_run TT rfl ?_) | (refine oj_bshl rfl rfl rfl rfl rfl rfl (by decide) ?_; refine oj_run TT rfl ?_) | (refine oj_bshr rfl rfl rfl rfl rfl rfl (by decide) ?_; refine oj_run TT rfl ?_) | (refine oj_slnil TT rfl rfl rfl rfl rfl rfl rfl rfl ?_; refine oj_run TT rfl ?_) | (refine oj_add rfl rfl rfl rfl rfl rfl (by omega) ?_; refine oj_run TT rfl ?_) | (refine oj_minus rfl rfl rfl rfl rfl rfl (by omega) ?_; refine oj_run TT rfl ?_)))
  refine oj_idx TT rfl rfl rfl rfl rfl rfl rfl rfl rfl H (by omega) hrow (oj_run TT rfl ?_)
  refine oj_indexAddr TT rfl rfl rfl rfl rfl rfl rfl rfl rfl ⟨by omega, by omega⟩ (oj_run TT rfl ?_)
  have hset : (L.set j x1).set j x2 = L.set j x2 := List.set_set ..
  refine oj_stA 1 (off := j * 11 + 1) (A' := [rE (some ⟨gm, 0, none⟩) L.length capM (L.map (stE fun x => 2 * x + c)), rE (some ⟨gn, 0, none⟩) L.length capN (L.set j x2)]) TT rfl rfl rfl rfl (had 1) rfl rfl rfl rfl rfl (hoff 1 (by omega)) trivial rfl ?_ (oj_run TT rfl ?_)
  · show [_, _] = [_, _]
    congr 1
    congr 1
    unfold rE
    congr 1
    rw [← hset]
    exact recXs_set (r' := x2) (.v (.int .i64 x.st)) hM1 (by omega) rfl
  refine oj_seal 0 rfl rfl rfl fun σ2 hle2 hS1 => ?_
  refine oj_seal 0 rfl rfl rfl fun σ3 hle3 hS2 => ?_
  have hlM : (L.map (stE fun x => 2 * x + c)).length = L.length := List.length_map ..
  have hlN : (L.set j x2).length = L.length := List.length_set ..
  have H1 : SlAt σ3 (some ⟨gm, 0, none⟩) (L.map (stE fun x => 2 * x + c)).length capM 11 (recRows (L.map (stE fun x => 2 * x + c))) := (rE_sealed (by rw [hlM]; exact hS1) (by omega)).mono hle3
  have H2 : SlAt σ3 (some ⟨gn, 0, none⟩) (L.set j x2).length capN 11 (recRows (L.set j x2)) := rE_sealed (by rw [hlN]; exact hS2) (by omega)
  have hnN : nestedG (L.set j x2) = false := by
    cases hh : nestedG (L.set j x2) with
    | false => rfl
    | true =>
      have := nested_lt hh x2 (by rw [List.mem_iff_getElem?]; exact ⟨j, by rw [List.getElem?_set_self hjl]⟩)
      have : x.en < x.st := this
      omega
  have hsN : soundG (L.set j x2) = false := by
    unfold soundG buildR
    rw [if_pos (.inr (.inl hnN))]
    rfl
  have hfN : RecsFit (L.set j x2) := by
    intro y hy
    rcases List.mem_or_eq_of_mem_set hy with hy | rfl
    · exact hfit y hy
    · exact hfitx
  have hml : (1000 : Nat) ≤ mostLen := by decide
  refine oj_set 10 (.a (.v (.slice (some ⟨gm, 0, none⟩) (L.map (stE fun x => 2 * x + c)).length capM))) rfl trivial (fun _ => by rw [hlM]) ?_
  refine oj_set 11 (.a (.v (.slice (some ⟨gn, 0, none⟩) (L.set j x2).length capN))) rfl trivial (fun _ => by rw [hlN]) ?_
  (repeat (first | refine cj_seq ?_ | (refine cj_region ?_; refine oj_run TT rfl ?_) | refine oj_then ?_ | refine oj_nil ?_ | refine cj_if_t rfl ?_ | refine cj_if_f rfl ?_ | refine cj_skip ?_ | refine cj_block ?_ | refine cj_exit ?_ | refine cj_ret ?_ | refine nj_then ?_ | refine nj_then_exit ?_ | refine nj_then_ret ?_ | refine nj_block ?_ | refine nj_block_ret ?_ | refine nj_block_out ?_ | refine nj_block_on rfl ?_ | (refine oj_band rfl rfl rfl rfl rfl rfl ?_; refine oj_run TT rfl ?_) | (refine oj_bor rfl rfl rfl rfl rfl rfl ?_; refine oj_run TT rfl ?_) | (refine oj_bandnot rfl rfl rfl rfl rfl rfl ?_; refine oj_run TT rfl ?_) | (refine oj_conv TT _ rfl rfl rfl rfl rfl rfl rfl rfl rfl ?_; refine oj_run TT rfl ?_) | (refine oj_bshl rfl rfl rfl rfl rfl rfl (by decide) ?_; refine oj_run TT rfl ?_) | (refine oj_bshr rfl rfl rfl rfl rfl rfl (by decide) ?_; refine oj_run TT rfl ?_) | (refine oj_slnil TT rfl rfl rfl rfl rfl rfl rfl rfl ?_; refine oj_run TT rfl ?_) | (refine oj_add rfl rfl rfl rfl rfl rfl (by omega) ?_; refine oj_run TT rfl ?_) | (refine oj_minus rfl rfl rfl rfl rfl rfl (by omega) ?_; refine oj_run TT rfl ?_)))
  refine oj_callS rfl rfl rfl rfl rfl Tryd.call22 ⟨trivial, trivial⟩ (Build_c σ3 _ (by omega) (hfit.map _) (fun _ => by rw [hBG c]; show g.weight ≤ _; omega) _ capM H1) fun v σ4 hle4 ⟨rr, hv, hrep⟩ => ⟨.tup [.agg rr, .a (.v (.int .i64 0))], SV.lt_tup ⟨hrep.clo, trivial, trivial⟩, (by rw [hv, hB c hc.1 hc.2]), ?_⟩
  rw [hB c hc.1 hc.2] at hrep
  dsimp only at hrep
  obtain ⟨xla, xlc, xlrows, xma, xmc, xvrows, rfl, XV⟩ := hrep.open
  refine oj_run TT rfl ?_
  (repeat (first | refine cj_seq ?_ | (refine cj_region ?_; refine oj_run TT rfl ?_) | refine oj_then ?_ | refine oj_nil ?_ | refine cj_if_t rfl ?_ | refine cj_if_f rfl ?_ | refine cj_skip ?_ | refine cj_block ?_ | refine cj_exit ?_ | refine cj_ret ?_ | refine nj_then ?_ | refine nj_then_exit ?_ | refine nj_then_ret ?_ | refine nj_block ?_ | refine nj_block_ret ?_ | refine nj_block_out ?_ | refine nj_block_on rfl ?_ | (refine oj_band rfl rfl rfl rfl rfl rfl ?_; refine oj_run TT rfl ?_) | (refine oj_bor rfl rfl rfl rfl rfl rfl ?_; refine oj_run TT rfl ?_) | (refine oj_bandnot rfl rfl rfl rfl rfl rfl ?_; refine oj_run TT rfl ?_) | (refine oj_conv TT _ rfl rfl rfl rfl rfl rfl rfl rfl rfl ?_; refine oj_run TT rfl ?_) | (refine oj_bshl rfl rfl rfl rfl rfl rfl (by decide) ?_; refine oj_run TT rfl ?_) | (refine oj_bshr rfl rfl rfl rfl rfl rfl (by decide) ?_; refine oj_run TT rfl ?_) | (refine oj_slnil TT rfl rfl rfl rfl rfl rfl rfl rfl ?_; refine oj_run TT rfl ?_) | (refine oj_add rfl rfl rfl rfl rfl rfl (by omega) ?_; refine oj_run TT rfl ?_) | (refine oj_minus rfl rfl rfl rfl rfl rfl (by omega) ?_; refine oj_run TT rfl ?_)))
  refine oj_split 109 rfl (fun h => ?_) (fun h => absurd h (by decide))
  refine oj_run TT rfl ?_
  have hle : σ.le σ4 := Snap.le_trans hle1 (Snap.le_trans hle2 (Snap.le_trans hle3 hle4))
  refine oj_callP rfl rfl rfl rfl rfl Tryd.call23 (by (repeat' (first | exact trivial | exact Nat.le_of_ble_eq_true rfl | exact vCells_lt _ _ _ _ _ _ | exact decCells_lt _ _ | refine AllLt.of ?_ | refine SV.lt_tup ?_ | exact SV.lt_fn0 | exact AT.lt_fn0 | exact RepV.clo (by assumption) | constructor))) (Exact_c g σ4 g _ _ (V.rep.mono hle) XV.rep) fun v hv => ⟨.a .tt, trivial, (by rw [hv, exactG_self g V.rep.wf]; rfl), ?_⟩
  refine oj_run TT rfl ?_
  refine oj_callP rfl rfl rfl rfl rfl Tryd.call24 (by (repeat' (first | exact trivial | exact Nat.le_of_ble_eq_true rfl | exact vCells_lt _ _ _ _ _ _ | exact decCells_lt _ _ | refine AllLt.of ?_ | refine SV.lt_tup ?_ | exact SV.lt_fn0 | exact AT.lt_fn0 | exact RepV.clo (by assumption) | constructor))) (Sound_c σ4 _ (by omega) hfN (fun h => by rw [hnN] at h; cases h) _ capN (H2.mono hle4)) fun v hv => ⟨.a .ff, trivial, (by rw [hv, hsN]; rfl), ?_⟩
  refine oj_run TT rfl ?_
  (repeat (first | refine cj_seq ?_ | (refine cj_region ?_; refine oj_run TT rfl ?_) | refine oj_then ?_ | refine oj_nil ?_ | refine cj_if_t rfl ?_ | refine cj_if_f rfl ?_ | refine cj_skip ?_ | refine cj_block ?_ | refine cj_exit ?_ | refine cj_ret ?_ | refine nj_then ?_ | refine nj_then_exit ?_ | refine nj_then_ret ?_ | refine nj_block ?_ | refine nj_block_ret ?_ | refine nj_block_out ?_ | refine nj_block_on rfl ?_ | (refine oj_band rfl rfl rfl rfl rfl rfl ?_; refine oj_run TT rfl ?_) | (refine oj_bor rfl rfl rfl rfl rfl rfl ?_; refine oj_run TT rfl ?_) | (refine oj_bandnot rfl rfl rfl rfl rfl rfl ?_; refine oj_run TT rfl ?_) | (refine oj_conv TT _ rfl rfl rfl rfl rfl rfl rfl rfl rfl ?_; refine oj_run TT rfl ?_) | (refine oj_bshl rfl rfl rfl rfl rfl rfl (by decide) ?_; refine oj_run TT rfl ?_) | (refine oj_bshr rfl rfl rfl rfl rfl rfl (by decide) ?_; refine oj_run TT rfl ?_) | (refine oj_slnil TT rfl rfl rfl rfl rfl rfl rfl rfl ?_; refine oj_run TT rfl ?_) | (refine oj_add rfl rfl rfl rfl rfl rfl (by omega) ?_; refine oj_run TT rfl ?_) | (refine oj_minus rfl rfl rfl rfl rfl rfl (by omega) ?_; refine oj_run TT rfl ?_)))
  refine nj_ret TT rfl fun β w' _ _ => ?_
  rfl
end Go.Sy
