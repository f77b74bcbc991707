import Derived.Test.YtadnijcgohflhaaDoorF16
namespace Go.Sy
open Go.Proofs

/-- Records that the program may be asked of. -/
structure RecsOk (L : List GRec) : Prop where
  len : L.length ≤ mostLen
  fit : RecsFit L
  bw : nestedG L = true → (buildG L).1.weight ≤ 1000000

/-! ### Parent -/

def atG (L : List GRec) (i : Int) : Bool := decide (0 ≤ i) && decide (i < (L.length : Int)) && soundG L

set_option maxRecDepth 100000 in
set_option maxHeartbeats 1000000 in
theorem at_c (σ : Snap) (L : List GRec) (R : RecsOk L) (ao : Option Addr) (cap : Nat) (H : SlAt σ ao L.length cap 11 (recRows L)) (i : Int) :
    PlainS Tryd.prog 76 [.a (.v (.slice ao L.length cap)), .a (.v (.int .i64 i))] σ (fun v => v = .bool (atG L i)) := by
  refine enter_p Tryd.func76 rfl rfl (by (repeat' (first | exact trivial | exact Nat.le_of_ble_eq_true rfl | exact vCells_lt _ _ _ _ _ _ | exact decCells_lt _ _ | refine AllLt.of ?_ | refine SV.lt_tup ?_ | exact SV.lt_fn0 | exact AT.lt_fn0 | exact RepV.clo (by assumption) | constructor))) fun w => ?_
  (repeat (first | refine cj_seq ?_ | (refine cj_region ?_; refine oj_run TT rfl ?_) | refine oj_then ?_ | refine oj_nil ?_ | refine cj_if_t rfl ?_ | refine cj_if_f rfl ?_ | refine cj_skip ?_ | refine cj_block ?_ | refine cj_exit ?_ | refine cj_ret ?_ | refine nj_then ?_ | refine nj_then_exit ?_ | refine nj_then_ret ?_ | refine nj_block ?_ | refine nj_block_ret ?_ | refine nj_block_out ?_ | refine nj_block_on rfl ?_ | (refine oj_band rfl rfl rfl rfl rfl rfl ?_; refine oj_run TT rfl ?_) | (refine oj_bor rfl rfl rfl rfl rfl rfl ?_; refine oj_run TT rfl ?_) | (refine oj_bandnot rfl rfl rfl rfl rfl rfl ?_; refine oj_run TT rfl ?_) | (refine oj_conv TT _ rfl rfl rfl rfl rfl rfl rfl rfl rfl ?_; refine oj_run TT rfl ?_) | (refine oj_bshl rfl rfl rfl rfl rfl rfl (by decide) ?_; refine oj_run TT rfl ?_) | (refine oj_bshr rfl rfl rfl rfl rfl rfl (by decide) ?_; refine oj_run TT rfl ?_) | (refine oj_slnil TT rfl rfl rfl rfl rfl rfl rfl rfl ?_; refine oj_run TT rfl ?_) | (refine oj_add rfl rfl rfl rfl rfl rfl (by omega) ?_; refine oj_run TT rfl ?_) | (refine oj_minus rfl rfl rfl rfl rfl rfl (by omega) ?_; refine oj_run TT rfl ?_)))
  refine oj_split 7 rfl (fun h => ?_) (fun h => ?_)
  rotate_left
  · refine oj_run TT rfl ?_
    (repeat (first | refine cj_seq ?_ | (refine cj_region ?_; refine oj_run TT rfl ?_) | refine oj_then ?_ | refine oj_nil ?_ | refine cj_if_t rfl ?_ | refine cj_if_f rfl ?_ | refine cj_skip ?_ | refine cj_block ?_ | refine cj_exit ?_ | refine cj_ret ?_ | refine nj_then ?_ | refine nj_then_exit ?_ | refine nj_then_ret ?_ | refine nj_block ?_ | refine nj_block_ret ?_ | refine nj_block_out ?_ | refine nj_block_on rfl ?_ | (refine oj_band rfl rfl rfl rfl rfl rfl ?_; refine oj_run TT rfl ?_) | (refine oj_bor rfl rfl rfl rfl rfl rfl ?_; refine oj_run TT rfl ?_) | (refine oj_bandnot rfl rfl rfl rfl rfl rfl ?_; refine oj_run TT rfl ?_) | (refine oj_conv TT _ rfl rfl rfl rfl rfl rfl rfl rfl rfl ?_; refine oj_run TT rfl ?_) | (refine oj_bshl rfl rfl rfl rfl rfl rfl (by decide) ?_; refine oj_run TT rfl ?_) | (refine oj_bshr rfl rfl rfl rfl rfl rfl (by decide) ?_; refine oj_run TT rfl ?_) | (refine oj_slnil TT rfl rfl rfl rfl rfl rfl rfl rfl ?_; refine oj_run TT rfl ?_) | (refine oj_add rfl rfl rfl rfl rfl rfl (by omega) ?_; refine oj_run TT rfl ?_) | (refine oj_minus rfl rfl rfl rfl rfl rfl (by omega) ?_; refine oj_run TT rfl ?_)))
    refine nj_ret TT rfl fun β w' _ _ => ?_
    unfold atG
    rw [show decide (0 ≤ i) = false from h, Bool.false_and, Bool.false_and]
    rfl
  have h1 : decide (0 ≤ i) = true := h
  refine oj_run TT rfl ?_
  refine oj_split 13 rfl (fun h => ?_) (fun h => ?_)
  rotate_left
  · refine oj_run TT rfl ?_
    (repeat (first | refine cj_seq ?_ | (refine cj_region ?_; refine oj_run TT rfl ?_) | refine oj_then ?_ | refine oj_nil ?_ | refine cj_if_t rfl ?_ | refine cj_if_f rfl ?_ | refine cj_skip ?_ | refine cj_block ?_ | refine cj_exit ?_ | refine cj_ret ?_ | refine nj_then ?_ | refine nj_then_exit ?_ | refine nj_then_ret ?_ | refine nj_block ?_ | refine nj_block_ret ?_ | refine nj_block_out ?_ | refine nj_block_on rfl ?_ | (refine oj_band rfl rfl rfl rfl rfl rfl ?_; refine oj_run TT rfl ?_) | (refine oj_bor rfl rfl rfl rfl rfl rfl ?_; refine oj_run TT rfl ?_) | (refine oj_bandnot rfl rfl rfl rfl rfl rfl ?_; refine oj_run TT rfl ?_) | (refine oj_conv TT _ rfl rfl rfl rfl rfl rfl rfl rfl rfl ?_; refine oj_run TT rfl ?_) | (refine oj_bshl rfl rfl rfl rfl rfl rfl (by decide) ?_; refine oj_run TT rfl ?_) | (refine oj_bshr rfl rfl rfl rfl rfl rfl (by decide) ?_; refine oj_run TT rfl ?_) | (refine oj_slnil TT rfl rfl rfl rfl rfl rfl rfl rfl ?_; refine oj_run TT rfl ?_) | (refine oj_add rfl rfl rfl rfl rfl rfl (by omega) ?_; refine oj_run TT rfl ?_) | (refine oj_minus rfl rfl rfl rfl rfl rfl (by omega) ?_; refine oj_run TT rfl ?_)))
    refine nj_ret TT rfl fun β w' _ _ => ?_
    unfold atG
    rw [show decide (i < (L.length : Int)) = false from h, Bool.and_false, Bool.false_and]
    rfl
  have h2 : decide (i < (L.length : Int)) = true := h
  refine oj_run TT rfl ?_
  refine oj_callP rfl rfl rfl rfl rfl Tryd.call24 (by (repeat' (first | exact trivial | exact Nat.le_of_ble_eq_true rfl | exact vCells_lt _ _ _ _ _ _ | exact decCells_lt _ _ | refine AllLt.of ?_ | refine SV.lt_tup ?_ | exact SV.lt_fn0 | exact AT.lt_fn0 | exact RepV.clo (by assumption) | constructor))) (Sound_c σ L R.len R.fit R.bw ao cap H) fun v hv => ⟨.a (.b (soundG L)), trivial, hv.symm, ?_⟩
  refine oj_run TT rfl ?_
  (repeat (first | refine cj_seq ?_ | (refine cj_region ?_; refine oj_run TT rfl ?_) | refine oj_then ?_ | refine oj_nil ?_ | refine cj_if_t rfl ?_ | refine cj_if_f rfl ?_ | refine cj_skip ?_ | refine cj_block ?_ | refine cj_exit ?_ | refine cj_ret ?_ | refine nj_then ?_ | refine nj_then_exit ?_ | refine nj_then_ret ?_ | refine nj_block ?_ | refine nj_block_ret ?_ | refine nj_block_out ?_ | refine nj_block_on rfl ?_ | (refine oj_band rfl rfl rfl rfl rfl rfl ?_; refine oj_run TT rfl ?_) | (refine oj_bor rfl rfl rfl rfl rfl rfl ?_; refine oj_run TT rfl ?_) | (refine oj_bandnot rfl rfl rfl rfl rfl rfl ?_; refine oj_run TT rfl ?_) | (refine oj_conv TT _ rfl rfl rfl rfl rfl rfl rfl rfl rfl ?_; refine oj_run TT rfl ?_) | (refine oj_bshl rfl rfl rfl rfl rfl rfl (by decide) ?_; refine oj_run TT rfl ?_) | (refine oj_bshr rfl rfl rfl rfl rfl rfl (by decide) ?_; refine oj_run TT rfl ?_) | (refine oj_slnil TT rfl rfl rfl rfl rfl rfl rfl rfl ?_; refine oj_run TT rfl ?_) | (refine oj_add rfl rfl rfl rfl rfl rfl (by omega) ?_; refine oj_run TT rfl ?_) | (refine oj_minus rfl rfl rfl rfl rfl rfl (by omega) ?_; refine oj_run TT rfl ?_)))
  refine nj_ret TT rfl fun β w' _ _ => ?_
  unfold atG
  rw [h1, h2]
  rfl

/-- The place of the record that one stands in, whose Start is st; from k down. -/
def parentK (L : List GRec) (st : Int) : Nat → Int
  | 0 => -1
  | k + 1 => if (L[k]?.map GRec.en).getD 0 < st then parentK L st k else k
def parentG (L : List GRec) (i : Nat) : Int := parentK L ((L[i]?.map GRec.st).getD 0) i

set_option maxRecDepth 100000 in
set_option maxHeartbeats 1000000 in
theorem parent_c (σ : Snap) (L : List GRec) (hL : L.length ≤ mostLen) (ao : Option Addr) (cap : Nat) (H : SlAt σ ao L.length cap 11 (recRows L)) (i : Nat) (hi : i < L.length) :
    PlainS Tryd.prog 78 [.a (.v (.slice ao L.length cap)), .a (.v (.int .i64 i))] σ (fun v => v = .int .i64 (parentG L i)) := by
  simp only [mostLen] at hL
  have hrow := recRows_get (List.getElem?_eq_getElem hi)
  have hst : (L[i]?.map GRec.st).getD 0 = L[i].st := by rw [List.getElem?_eq_getElem hi]; rfl
  unfold parentG
  rw [hst]
  generalize L[i] = x at *
  refine enter_p Tryd.func78 rfl rfl (by (repeat' (first | exact trivial | exact Nat.le_of_ble_eq_true rfl | exact vCells_lt _ _ _ _ _ _ | exact decCells_lt _ _ | refine AllLt.of ?_ | refine SV.lt_tup ?_ | exact SV.lt_fn0 | exact AT.lt_fn0 | exact RepV.clo (by assumption) | constructor))) fun w => ?_
  (repeat (first | refine cj_seq ?_ | (refine cj_region ?_; refine oj_run TT rfl ?_) | refine oj_then ?_ | refine oj_nil ?_ | refine cj_if_t rfl ?_ | refine cj_if_f rfl ?_ | refine cj_skip ?_ | refine cj_block ?_ | refine cj_exit ?_ | refine cj_ret ?_ | refine nj_then ?_ | refine nj_then_exit ?_ | refine nj_then_ret ?_ | refine nj_block ?_ | refine nj_block_ret ?_ | refine nj_block_out ?_ | refine nj_block_on rfl ?_ | (refine oj_band rfl rfl rfl rfl rfl rfl ?_; refine oj_run TT rfl ?_) | (refine oj_bor rfl rfl rfl rfl rfl rfl ?_; refine oj_run TT rfl ?_) | (refine oj_bandnot rfl rfl rfl rfl rfl rfl ?_; refine oj_run TT rfl ?_) | (refine oj_conv TT _ rfl rfl rfl rfl rfl rfl rfl rfl rfl ?_; refine oj_run TT rfl ?_) | (refine oj_bshl rfl rfl rfl rfl rfl rfl (by decide) ?_; refine oj_run TT rfl ?_) | (refine oj_bshr rfl rfl rfl rfl rfl rfl (by decide) ?_; refine oj_run TT rfl ?_) | (refine oj_slnil TT rfl rfl rfl rfl rfl rfl rfl rfl ?_; refine oj_run TT rfl ?_) | (refine oj_add rfl rfl rfl rfl rfl rfl (by omega) ?_; refine oj_run TT rfl ?_) | (refine oj_minus rfl rfl rfl rfl rfl rfl (by omega) ?_; refine oj_run TT rfl ?_)))
  refine cj_loop (fun _ => σ) (fun (k : Nat) => [(0, .a (.v (.slice ao L.length cap))), (1, .a (.v (.int .i64 i))), (5, .a (.v (.int .i64 ((k : Int) - 1))))]) (fun _ => []) (fun _ => []) 0
    (fun k => k ≤ i ∧ parentK L x.st k = parentK L x.st i) (fun k => k) i ⟨Nat.le_refl _, rfl⟩ rfl (by (repeat (first | exact trivial | refine And.intro rfl ?_))) (by (repeat (first | exact trivial | refine And.intro rfl ?_))) rfl (by (repeat' (first | exact trivial | exact Nat.le_of_ble_eq_true rfl | exact vCells_lt _ _ _ _ _ _ | exact decCells_lt _ _ | refine AllLt.of ?_ | refine SV.lt_tup ?_ | exact SV.lt_fn0 | exact AT.lt_fn0 | exact RepV.clo (by assumption) | constructor))) (by (repeat' (first | exact trivial | exact Nat.le_of_ble_eq_true rfl | exact vCells_lt _ _ _ _ _ _ | exact decCells_lt _ _ | refine AllLt.of ?_ | refine SV.lt_tup ?_ | exact SV.lt_fn0 | exact AT.lt_fn0 | exact RepV.clo (by assumption) | constructor))) fun k ⟨hk, hp⟩ => ?_
  (repeat (first | refine cj_seq ?_ | (refine cj_region ?_; refine oj_run TT rfl ?_) | refine oj_then ?_ | refine oj_nil ?_ | refine cj_if_t rfl ?_ | refine cj_if_f rfl ?_ | refine cj_skip ?_ | refine cj_block ?_ | refine cj_exit ?_ | refine cj_ret ?_ | refine nj_then ?_ | refine nj_then_exit ?_ | refine nj_then_ret ?_ | refine nj_block ?_ | refine nj_block_ret ?_ | refine nj_block_out ?_ | refine nj_block_on rfl ?_ | (refine oj_band rfl rfl rfl rfl rfl rfl ?_; refine oj_run TT rfl ?_) | (refine oj_bor rfl rfl rfl rfl rfl rfl ?_; refine oj_run TT rfl ?_) | (refine oj_bandnot rfl rfl rfl rfl rfl rfl ?_; refine oj_run TT rfl ?_) | (refine oj_conv TT _ rfl rfl rfl rfl rfl rfl rfl rfl rfl ?_; refine oj_run TT rfl ?_) | (refine oj_bshl rfl rfl rfl rfl rfl rfl (by decide) ?_; refine oj_run TT rfl ?_) | (refine oj_bshr rfl rfl rfl rfl rfl rfl (by decide) ?_; refine oj_run TT rfl ?_) | (refine oj_slnil TT rfl rfl rfl rfl rfl rfl rfl rfl ?_; refine oj_run TT rfl ?_) | (refine oj_add rfl rfl rfl rfl rfl rfl (by omega) ?_; refine oj_run TT rfl ?_) | (refine oj_minus rfl rfl rfl rfl rfl rfl (by omega) ?_; refine oj_run TT rfl ?_)))
  refine cj_draw [(0,.pure),(1,.pure),(2,.pure),(3,.pure),(4,.pure),(5,.pure),(6,.pure),(7,.quiet),(8,.pure),(9,.pure),(10,.pure),(11,.pure),(12,.quiet),(13,.pure),(14,.pure)] mixed (by kernel_rfl) (oj_run TT rfl ?_)
  refine oj_split 10 rfl (fun h => ?_) (fun h => ?_)
  rotate_left
  · have hk0 : k = 0 := by have := of_decide_eq_false h; omega
    subst hk0
    refine oj_run TT rfl ?_
    (repeat (first | refine cj_seq ?_ | (refine cj_region ?_; refine oj_run TT rfl ?_) | refine oj_then ?_ | refine oj_nil ?_ | refine cj_if_t rfl ?_ | refine cj_if_f rfl ?_ | refine cj_skip ?_ | refine cj_block ?_ | refine cj_exit ?_ | refine cj_ret ?_ | refine nj_then ?_ | refine nj_then_exit ?_ | refine nj_then_ret ?_ | refine nj_block ?_ | refine nj_block_ret ?_ | refine nj_block_out ?_ | refine nj_block_on rfl ?_ | (refine oj_band rfl rfl rfl rfl rfl rfl ?_; refine oj_run TT rfl ?_) | (refine oj_bor rfl rfl rfl rfl rfl rfl ?_; refine oj_run TT rfl ?_) | (refine oj_bandnot rfl rfl rfl rfl rfl rfl ?_; refine oj_run TT rfl ?_) | (refine oj_conv TT _ rfl rfl rfl rfl rfl rfl rfl rfl rfl ?_; refine oj_run TT rfl ?_) | (refine oj_bshl rfl rfl rfl rfl rfl rfl (by decide) ?_; refine oj_run TT rfl ?_) | (refine oj_bshr rfl rfl rfl rfl rfl rfl (by decide) ?_; refine oj_run TT rfl ?_) | (refine oj_slnil TT rfl rfl rfl rfl rfl rfl rfl rfl ?_; refine oj_run TT rfl ?_) | (refine oj_add rfl rfl rfl rfl rfl rfl (by omega) ?_; refine oj_run TT rfl ?_) | (refine oj_minus rfl rfl rfl rfl rfl rfl (by omega) ?_; refine oj_run TT rfl ?_)))
    refine nj_ret TT rfl fun β w' _ _ => ?_
    rw [← hp]
    rfl
  obtain ⟨k, rfl⟩ : ∃ m, k = m + 1 := ⟨k - 1, by have := of_decide_eq_true h; omega⟩
  have hkl : k < L.length := by omega
  have hrow1 := recRows_get (List.getElem?_eq_getElem hkl)
  have hen : (L[k]?.map GRec.en).getD 0 = L[k].en := by rw [List.getElem?_eq_getElem hkl]; rfl
  rw [parentK, hen] at hp
  have he : ((k + 1 : Nat) : Int) - 1 = k := by omega
  rw [he]
  generalize L[k] = y at *
  refine oj_run TT rfl ?_
  refine oj_idx TT rfl rfl rfl rfl rfl rfl rfl rfl rfl H (by omega) hrow1 (oj_run TT rfl ?_)
  refine oj_idx TT rfl rfl rfl rfl rfl rfl rfl rfl rfl H (by omega) hrow (oj_run TT rfl ?_)
  (repeat (first | refine cj_seq ?_ | (refine cj_region ?_; refine oj_run TT rfl ?_) | refine oj_then ?_ | refine oj_nil ?_ | refine cj_if_t rfl ?_ | refine cj_if_f rfl ?_ | refine cj_skip ?_ | refine cj_block ?_ | refine cj_exit ?_ | refine cj_ret ?_ | refine nj_then ?_ | refine nj_then_exit ?_ | refine nj_then_ret ?_ | refine nj_block ?_ | refine nj_block_ret ?_ | refine nj_block_out ?_ | refine nj_block_on rfl ?_ | (refine oj_band rfl rfl rfl rfl rfl rfl ?_; refine oj_run TT rfl ?_) | (refine oj_bor rfl rfl rfl rfl rfl rfl ?_; refine oj_run TT rfl ?_) | (refine oj_bandnot rfl rfl rfl rfl rfl rfl ?_; refine oj_run TT rfl ?_) | (refine oj_conv TT _ rfl rfl rfl rfl rfl rfl rfl rfl rfl ?_; refine oj_run TT rfl ?_) | (refine oj_bshl rfl rfl rfl rfl rfl rfl (by decide) ?_; refine oj_run TT rfl ?_) | (refine oj_bshr rfl rfl rfl rfl rfl rfl (by decide) ?_; refine oj_run TT rfl ?_) | (refine oj_slnil TT rfl rfl rfl rfl rfl rfl rfl rfl ?_; refine oj_run TT rfl ?_) | (refine oj_add rfl rfl rfl rfl rfl rfl (by omega) ?_; refine oj_run TT rfl ?_) | (refine oj_minus rfl rfl rfl rfl rfl rfl (by omega) ?_; refine oj_run TT rfl ?_)))
  refine cj_if rfl (fun h => ?_) (fun h => ?_)
  · rw [if_pos (of_decide_eq_true h)] at hp
    (repeat (first | refine cj_seq ?_ | (refine cj_region ?_; refine oj_run TT rfl ?_) | refine oj_then ?_ | refine oj_nil ?_ | refine cj_if_t rfl ?_ | refine cj_if_f rfl ?_ | refine cj_skip ?_ | refine cj_block ?_ | refine cj_exit ?_ | refine cj_ret ?_ | refine nj_then ?_ | refine nj_then_exit ?_ | refine nj_then_ret ?_ | refine nj_block ?_ | refine nj_block_ret ?_ | refine nj_block_out ?_ | refine nj_block_on rfl ?_ | (refine oj_band rfl rfl rfl rfl rfl rfl ?_; refine oj_run TT rfl ?_) | (refine oj_bor rfl rfl rfl rfl rfl rfl ?_; refine oj_run TT rfl ?_) | (refine oj_bandnot rfl rfl rfl rfl rfl rfl ?_; refine oj_run TT rfl ?_) | (refine oj_conv TT _ rfl rfl rfl rfl rfl rfl rfl rfl rfl ?_; refine oj_run TT rfl ?_) | (refine oj_bshl rfl rfl rfl rfl rfl rfl (by decide) ?_; refine oj_run TT rfl ?_) | (refine oj_bshr rfl rfl rfl rfl rfl rfl (by decide) ?_; refine oj_run TT rfl ?_) | (refine oj_slnil TT rfl rfl rfl rfl rfl rfl rfl rfl ?_; refine oj_run TT rfl ?_) | (refine oj_add rfl rfl rfl rfl rfl rfl (by omega) ?_; refine oj_run TT rfl ?_) | (refine oj_minus rfl rfl rfl rfl rfl rfl (by omega) ?_; refine oj_run TT rfl ?_)))
    refine nj_again k ⟨by omega, hp⟩ (Nat.lt_succ_self k) rfl (by (repeat (first | exact trivial | refine And.intro rfl ?_))) (by (repeat (first | exact trivial | refine And.intro rfl ?_))) rfl (by (repeat' (first | exact trivial | exact Nat.le_of_ble_eq_true rfl | exact vCells_lt _ _ _ _ _ _ | exact decCells_lt _ _ | refine AllLt.of ?_ | refine SV.lt_tup ?_ | exact SV.lt_fn0 | exact AT.lt_fn0 | exact RepV.clo (by assumption) | constructor))) (by (repeat' (first | exact trivial | exact Nat.le_of_ble_eq_true rfl | exact vCells_lt _ _ _ _ _ _ | exact decCells_lt _ _ | refine AllLt.of ?_ | refine SV.lt_tup ?_ | exact SV.lt_fn0 | exact AT.lt_fn0 | exact RepV.clo (by assumption) | constructor)))
  · rw [if_neg (of_decide_eq_false h)] at hp
    (repeat (first | refine cj_seq ?_ | (refine cj_region ?_; refine oj_run TT rfl ?_) | refine oj_then ?_ | refine oj_nil ?_ | refine cj_if_t rfl ?_ | refine cj_if_f rfl ?_ | refine cj_skip ?_ | refine cj_block ?_ | refine cj_exit ?_ | refine cj_ret ?_ | refine nj_then ?_ | refine nj_then_exit ?_ | refine nj_then_ret ?_ | refine nj_block ?_ | refine nj_block_ret ?_ | refine nj_block_out ?_ | refine nj_block_on rfl ?_ | (refine oj_band rfl rfl rfl rfl rfl rfl ?_; refine oj_run TT rfl ?_) | (refine oj_bor rfl rfl rfl rfl rfl rfl ?_; refine oj_run TT rfl ?_) | (refine oj_bandnot rfl rfl rfl rfl rfl rfl ?_; refine oj_run TT rfl ?_) | (refine oj_conv TT _ rfl rfl rfl rfl rfl rfl rfl rfl rfl ?_; refine oj_run TT rfl ?_) | (refine oj_bshl rfl rfl rfl rfl rfl rfl (by decide) ?_; refine oj_run TT rfl ?_) | (refine oj_bshr rfl rfl rfl rfl rfl rfl (by decide) ?_; refine oj_run TT rfl ?_) | (refine oj_slnil TT rfl rfl rfl rfl rfl rfl rfl rfl ?_; refine oj_run TT rfl ?_) | (refine oj_add rfl rfl rfl rfl rfl rfl (by omega) ?_; refine oj_run TT rfl ?_) | (refine oj_minus rfl rfl rfl rfl rfl rfl (by omega) ?_; refine oj_run TT rfl ?_)))
    refine nj_ret TT rfl fun β w' _ _ => ?_
    rw [← hp]
    rfl

set_option maxRecDepth 100000 in
set_option maxHeartbeats 1000000 in
theorem Parent_c (σ : Snap) (L : List GRec) (R : RecsOk L) (ao : Option Addr) (cap : Nat) (H : SlAt σ ao L.length cap 11 (recRows L)) (i : Int) :
    PlainS Tryd.prog 36 [.a (.v (.slice ao L.length cap)), .a (.v (.int .i64 i))] σ (fun v => v = .int .i64 (if atG L i then parentG L i.toNat else -1)) := by
  refine enter_p Tryd.func36 rfl rfl (by (repeat' (first | exact trivial | exact Nat.le_of_ble_eq_true rfl | exact vCells_lt _ _ _ _ _ _ | exact decCells_lt _ _ | refine AllLt.of ?_ | refine SV.lt_tup ?_ | exact SV.lt_fn0 | exact AT.lt_fn0 | exact RepV.clo (by assumption) | constructor))) fun w => ?_
  (repeat (first | refine cj_seq ?_ | (refine cj_region ?_; refine oj_run TT rfl ?_) | refine oj_then ?_ | refine oj_nil ?_ | refine cj_if_t rfl ?_ | refine cj_if_f rfl ?_ | refine cj_skip ?_ | refine cj_block ?_ | refine cj_exit ?_ | refine cj_ret ?_ | refine nj_then ?_ | refine nj_then_exit ?_ | refine nj_then_ret ?_ | refine nj_block ?_ | refine nj_block_ret ?_ | refine nj_block_out ?_ | refine nj_block_on rfl ?_ | (refine oj_band rfl rfl rfl rfl rfl rfl ?_; refine oj_run TT rfl ?_) | (refine oj_bor rfl rfl rfl rfl rfl rfl ?_; refine oj_run TT rfl ?_) | (refine oj_bandnot rfl rfl rfl rfl rfl rfl ?_; refine oj_run TT rfl ?_) | (refine oj_conv TT _ rfl rfl rfl rfl rfl rfl rfl rfl rfl ?_; refine oj_run TT rfl ?_) | (refine oj_bshl rfl rfl rfl rfl rfl rfl (by decide) ?_; refine oj_run TT rfl ?_) | (refine oj_bshr rfl rfl rfl rfl rfl rfl (by decide) ?_; refine oj_run TT rfl ?_) | (refine oj_slnil TT rfl rfl rfl rfl rfl rfl rfl rfl ?_; refine oj_run TT rfl ?_) | (refine oj_add rfl rfl rfl rfl rfl rfl (by omega) ?_; refine oj_run TT rfl ?_) | (refine oj_minus rfl rfl rfl rfl rfl rfl (by omega) ?_; refine oj_run TT rfl ?_)))
  refine oj_callP rfl rfl rfl rfl rfl Tryd.call76 (by (repeat' (first | exact trivial | exact Nat.le_of_ble_eq_true rfl | exact vCells_lt _ _ _ _ _ _ | exact decCells_lt _ _ | refine AllLt.of ?_ | refine SV.lt_tup ?_ | exact SV.lt_fn0 | exact AT.lt_fn0 | exact RepV.clo (by assumption) | constructor))) (at_c σ L R ao cap H i) fun v hv => ⟨.a (.b (atG L i)), trivial, hv.symm, ?_⟩
  refine oj_run TT rfl ?_
  (repeat (first | refine cj_seq ?_ | (refine cj_region ?_; refine oj_run TT rfl ?_) | refine oj_then ?_ | refine oj_nil ?_ | refine cj_if_t rfl ?_ | refine cj_if_f rfl ?_ | refine cj_skip ?_ | refine cj_block ?_ | refine cj_exit ?_ | refine cj_ret ?_ | refine nj_then ?_ | refine nj_then_exit ?_ | refine nj_then_ret ?_ | refine nj_block ?_ | refine nj_block_ret ?_ | refine nj_block_out ?_ | refine nj_block_on rfl ?_ | (refine oj_band rfl rfl rfl rfl rfl rfl ?_; refine oj_run TT rfl ?_) | (refine oj_bor rfl rfl rfl rfl rfl rfl ?_; refine oj_run TT rfl ?_) | (refine oj_bandnot rfl rfl rfl rfl rfl rfl ?_; refine oj_run TT rfl ?_) | (refine oj_conv TT _ rfl rfl rfl rfl rfl rfl rfl rfl rfl ?_; refine oj_run TT rfl ?_) | (refine oj_bshl rfl rfl rfl rfl rfl rfl (by decide) ?_; refine oj_run TT rfl ?_) | (refine oj_bshr rfl rfl rfl rfl rfl rfl (by decide) ?_; refine oj_run TT rfl ?_) | (refine oj_slnil TT rfl rfl rfl rfl rfl rfl rfl rfl ?_; refine oj_run TT rfl ?_) | (refine oj_add rfl rfl rfl rfl rfl rfl (by omega) ?_; refine oj_run TT rfl ?_) | (refine oj_minus rfl rfl rfl rfl rfl rfl (by omega) ?_; refine oj_run TT rfl ?_)))
  refine cj_if rfl (fun h => ?_) (fun h => ?_)
  · have h : atG L i = false := by simpa using h
    (repeat (first | refine cj_seq ?_ | (refine cj_region ?_; refine oj_run TT rfl ?_) | refine oj_then ?_ | refine oj_nil ?_ | refine cj_if_t rfl ?_ | refine cj_if_f rfl ?_ | refine cj_skip ?_ | refine cj_block ?_ | refine cj_exit ?_ | refine cj_ret ?_ | refine nj_then ?_ | refine nj_then_exit ?_ | refine nj_then_ret ?_ | refine nj_block ?_ | refine nj_block_ret ?_ | refine nj_block_out ?_ | refine nj_block_on rfl ?_ | (refine oj_band rfl rfl rfl rfl rfl rfl ?_; refine oj_run TT rfl ?_) | (refine oj_bor rfl rfl rfl rfl rfl rfl ?_; refine oj_run TT rfl ?_) | (refine oj_bandnot rfl rfl rfl rfl rfl rfl ?_; refine oj_run TT rfl ?_) | (refine oj_conv TT _ rfl rfl rfl rfl rfl rfl rfl rfl rfl ?_; refine oj_run TT rfl ?_) | (refine oj_bshl rfl rfl rfl rfl rfl rfl (by decide) ?_; refine oj_run TT rfl ?_) | (refine oj_bshr rfl rfl rfl rfl rfl rfl (by decide) ?_; refine oj_run TT rfl ?_) | (refine oj_slnil TT rfl rfl rfl rfl rfl rfl rfl rfl ?_; refine oj_run TT rfl ?_) | (refine oj_add rfl rfl rfl rfl rfl rfl (by omega) ?_; refine oj_run TT rfl ?_) | (refine oj_minus rfl rfl rfl rfl rfl rfl (by omega) ?_; refine oj_run TT rfl ?_)))
    refine nj_ret TT rfl fun β w' _ _ => ?_
    rw [if_neg (by simp [h])]
    rfl
  have h : atG L i = true := by simpa using h
  have hb : 0 ≤ i ∧ i < L.length := by
    unfold atG at h
    simp only [Bool.and_eq_true, decide_eq_true_eq] at h
    exact h.1
  obtain ⟨j, rfl⟩ : ∃ j : Nat, i = j := ⟨i.toNat, by omega⟩
  (repeat (first | refine cj_seq ?_ | (refine cj_region ?_; refine oj_run TT rfl ?_) | refine oj_then ?_ | refine oj_nil ?_ | refine cj_if_t rfl ?_ | refine cj_if_f rfl ?_ | refine cj_skip ?_ | refine cj_block ?_ | refine cj_exit ?_ | refine cj_ret ?_ | refine nj_then ?_ | refine nj_then_exit ?_ | refine nj_then_ret ?_ | refine nj_block ?_ | refine nj_block_ret ?_ | refine nj_block_out ?_ | refine nj_block_on rfl ?_ | (refine oj_band rfl rfl rfl rfl rfl rfl ?_; refine oj_run TT rfl ?_) | (refine oj_bor rfl rfl rfl rfl rfl rfl ?_; refine oj_run TT rfl ?_) | (refine oj_bandnot rfl rfl rfl rfl rfl rfl ?_; refine oj_run TT rfl ?_) | (refine oj_conv TT _ rfl rfl rfl rfl rfl rfl rfl rfl rfl ?_; refine oj_run TT rfl ?_) | (refine oj_bshl rfl rfl rfl rfl rfl rfl (by decide) ?_; refine oj_run TT rfl ?_) | (refine oj_bshr rfl rfl rfl rfl rfl rfl (by decide) ?_; refine oj_run TT rfl ?_) | (refine oj_slnil TT rfl rfl rfl rfl rfl rfl rfl rfl ?_; refine oj_run TT rfl ?_) | (refine oj_add rfl rfl rfl rfl rfl rfl (by omega) ?_; refine oj_run TT rfl ?_) | (refine oj_minus rfl rfl rfl rfl rfl rfl (by omega) ?_; refine oj_run TT rfl ?_)))
  refine oj_callP rfl rfl rfl rfl rfl Tryd.call78 (by (repeat' (first | exact trivial | exact Nat.le_of_ble_eq_true rfl | exact vCells_lt _ _ _ _ _ _ | exact decCells_lt _ _ | refine AllLt.of ?_ | refine SV.lt_tup ?_ | exact SV.lt_fn0 | exact AT.lt_fn0 | exact RepV.clo (by assumption) | constructor))) (parent_c σ L R.len ao cap H j (by omega)) fun v hv => ⟨.a (.v (.int .i64 (parentG L j))), trivial, hv.symm, ?_⟩
  refine oj_run TT rfl ?_
  (repeat (first | refine cj_seq ?_ | (refine cj_region ?_; refine oj_run TT rfl ?_) | refine oj_then ?_ | refine oj_nil ?_ | refine cj_if_t rfl ?_ | refine cj_if_f rfl ?_ | refine cj_skip ?_ | refine cj_block ?_ | refine cj_exit ?_ | refine cj_ret ?_ | refine nj_then ?_ | refine nj_then_exit ?_ | refine nj_then_ret ?_ | refine nj_block ?_ | refine nj_block_ret ?_ | refine nj_block_out ?_ | refine nj_block_on rfl ?_ | (refine oj_band rfl rfl rfl rfl rfl rfl ?_; refine oj_run TT rfl ?_) | (refine oj_bor rfl rfl rfl rfl rfl rfl ?_; refine oj_run TT rfl ?_) | (refine oj_bandnot rfl rfl rfl rfl rfl rfl ?_; refine oj_run TT rfl ?_) | (refine oj_conv TT _ rfl rfl rfl rfl rfl rfl rfl rfl rfl ?_; refine oj_run TT rfl ?_) | (refine oj_bshl rfl rfl rfl rfl rfl rfl (by decide) ?_; refine oj_run TT rfl ?_) | (refine oj_bshr rfl rfl rfl rfl rfl rfl (by decide) ?_; refine oj_run TT rfl ?_) | (refine oj_slnil TT rfl rfl rfl rfl rfl rfl rfl rfl ?_; refine oj_run TT rfl ?_) | (refine oj_add rfl rfl rfl rfl rfl rfl (by omega) ?_; refine oj_run TT rfl ?_) | (refine oj_minus rfl rfl rfl rfl rfl rfl (by omega) ?_; refine oj_run TT rfl ?_)))
  refine nj_ret TT rfl fun β w' _ _ => ?_
  rw [if_pos h]
  rfl

/-! ### awake -/

def awG : GVal := .mk 4 false dec0 emptyS [.mk 1 true dec0 emptyS [] [] []] [] []
def awL : List GRec := [⟨10, 40, 0, 4, false, emptyS, false, dec0, emptyS⟩, ⟨20, 30, 1, 1, false, emptyS, true, dec0, emptyS⟩]
theorem aw_shred : shredG awG 10 = (awL, 0) := by decide
theorem aw_sound : soundG awL = true := by decide
theorem aw_parent : (if atG awL 1 then parentG awL (1 : Int).toNat else -1) = 0 := by decide
theorem aw_ok : RecsOk awL := ⟨by decide, fun r hr => by simp only [awL, List.mem_cons, List.not_mem_nil, or_false] at hr; rcases hr with rfl | rfl <;> exact ⟨by decide, by decide, by decide⟩, fun _ => by decide⟩

set_option maxRecDepth 100000 in
set_option maxHeartbeats 1000000 in
theorem awake11_c (σ : Snap) : PlainS Tryd.prog 18 [] σ (fun v => v = .bool true) := by
  refine enter_p Tryd.func18 rfl rfl (by (repeat' (first | exact trivial | exact Nat.le_of_ble_eq_true rfl | exact vCells_lt _ _ _ _ _ _ | exact decCells_lt _ _ | refine AllLt.of ?_ | refine SV.lt_tup ?_ | exact SV.lt_fn0 | exact AT.lt_fn0 | exact RepV.clo (by assumption) | constructor))) fun w => ?_
  (repeat (first | refine cj_seq ?_ | (refine cj_region ?_; refine oj_run TT rfl ?_) | refine oj_then ?_ | refine oj_nil ?_ | refine cj_if_t rfl ?_ | refine cj_if_f rfl ?_ | refine cj_skip ?_ | refine cj_block ?_ | refine cj_exit ?_ | refine cj_ret ?_ | refine nj_then ?_ | refine nj_then_exit ?_ | refine nj_then_ret ?_ | refine nj_block ?_ | refine nj_block_ret ?_ | refine nj_block_out ?_ | refine nj_block_on rfl ?_ | (refine oj_band rfl rfl rfl rfl rfl rfl ?_; refine oj_run TT rfl ?_) | (refine oj_bor rfl rfl rfl rfl rfl rfl ?_; refine oj_run TT rfl ?_) | (refine oj_bandnot rfl rfl rfl rfl rfl rfl ?_; refine oj_run TT rfl ?_) | (refine oj_conv TT _ rfl rfl rfl rfl rfl rfl rfl rfl rfl ?_; refine oj_run TT rfl ?_) | (refine oj_bshl rfl rfl rfl rfl rfl rfl (by decide) ?_; refine oj_run TT rfl ?_) | (refine oj_bshr rfl rfl rfl rfl rfl rfl (by decide) ?_; refine oj_run TT rfl ?_) | (refine oj_slnil TT rfl rfl rfl rfl rfl rfl rfl rfl ?_; refine oj_run TT rfl ?_) | (refine oj_add rfl rfl rfl rfl rfl rfl (by omega) ?_; refine oj_run TT rfl ?_) | (refine oj_minus rfl rfl rfl rfl rfl rfl (by omega) ?_; refine oj_run TT rfl ?_)))
  refine oj_own 0 1 8 rfl (by (repeat' (first | exact trivial | exact Nat.le_of_ble_eq_true rfl | exact vCells_lt _ _ _ _ _ _ | exact decCells_lt _ _ | refine AllLt.of ?_ | refine SV.lt_tup ?_ | exact SV.lt_fn0 | exact AT.lt_fn0 | exact RepV.clo (by assumption) | constructor))) rfl (by decide) fun g1 => ?_
  refine oj_seal 0 rfl rfl rfl fun σ1 hle1 hS => ?_
  have H1 : SlAt σ1 (some ⟨g1, 0, none⟩) 1 1 8 [vCells (.mk 1 true dec0 emptyS [] [] []) none 0 none 0] := hS.sl (rows := [vCells (.mk 1 true dec0 emptyS [] [] []) none 0 none 0]) rfl (fun r hr => by rw [List.mem_singleton.1 hr]; exact ⟨rfl, vCells_lt _ _ _ _ _ _⟩) rfl rfl (Nat.le_refl _)
  have hrep1 : RepV σ1 (.mk 1 true dec0 emptyS [] [] []) (vCells (.mk 1 true dec0 emptyS [] [] []) none 0 none 0) := by
    simp only [RepV]
    exact ⟨none, 0, [], none, 0, [], rfl, SlAt.nil _ _ _ _, rfl, rfl, SlAt.nil _ _ _ _, rfl, by decide, by decide, by decide, by decide, fun k h => (by cases h)⟩
  have hrep : RepV σ1 awG (vCells awG (some ⟨g1, 0, none⟩) 1 none 0) := by
    simp only [awG, RepV]
    exact ⟨some ⟨g1, 0, none⟩, 1, _, none, 0, [], rfl, H1, ⟨_, _, rfl, hrep1, rfl⟩, rfl, SlAt.nil _ _ _ _, rfl, by decide, by decide, by decide, by decide, fun k h => (by cases h)⟩
  refine oj_set 6 (.agg (vCells awG (some ⟨g1, 0, none⟩) 1 none 0)) rfl (vCells_lt _ _ _ _ _ _) (fun _ => rfl) ?_
  refine oj_callS rfl rfl rfl rfl rfl Tryd.call21 ⟨vCells_lt _ _ _ _ _ _, trivial, trivial⟩ (Shred_s σ1 awG _ 10 hrep (by decide)) fun v σ2 hle2 ⟨ao, cap, hv, H⟩ => ⟨.tup [.a (.v (.slice ao 2 cap)), .a (.v (.int .i64 0))], (by (repeat' (first | exact trivial | exact Nat.le_of_ble_eq_true rfl | exact vCells_lt _ _ _ _ _ _ | exact decCells_lt _ _ | refine AllLt.of ?_ | refine SV.lt_tup ?_ | exact SV.lt_fn0 | exact AT.lt_fn0 | exact RepV.clo (by assumption) | constructor))), (by rw [hv, aw_shred]; rfl), ?_⟩
  rw [aw_shred] at H
  have H : SlAt σ2 ao 2 cap 11 (recRows awL) := H
  refine oj_run TT rfl ?_
  (repeat (first | refine cj_seq ?_ | (refine cj_region ?_; refine oj_run TT rfl ?_) | refine oj_then ?_ | refine oj_nil ?_ | refine cj_if_t rfl ?_ | refine cj_if_f rfl ?_ | refine cj_skip ?_ | refine cj_block ?_ | refine cj_exit ?_ | refine cj_ret ?_ | refine nj_then ?_ | refine nj_then_exit ?_ | refine nj_then_ret ?_ | refine nj_block ?_ | refine nj_block_ret ?_ | refine nj_block_out ?_ | refine nj_block_on rfl ?_ | (refine oj_band rfl rfl rfl rfl rfl rfl ?_; refine oj_run TT rfl ?_) | (refine oj_bor rfl rfl rfl rfl rfl rfl ?_; refine oj_run TT rfl ?_) | (refine oj_bandnot rfl rfl rfl rfl rfl rfl ?_; refine oj_run TT rfl ?_) | (refine oj_conv TT _ rfl rfl rfl rfl rfl rfl rfl rfl rfl ?_; refine oj_run TT rfl ?_) | (refine oj_bshl rfl rfl rfl rfl rfl rfl (by decide) ?_; refine oj_run TT rfl ?_) | (refine oj_bshr rfl rfl rfl rfl rfl rfl (by decide) ?_; refine oj_run TT rfl ?_) | (refine oj_slnil TT rfl rfl rfl rfl rfl rfl rfl rfl ?_; refine oj_run TT rfl ?_) | (refine oj_add rfl rfl rfl rfl rfl rfl (by omega) ?_; refine oj_run TT rfl ?_) | (refine oj_minus rfl rfl rfl rfl rfl rfl (by omega) ?_; refine oj_run TT rfl ?_)))
  refine oj_split 12 rfl (fun h => ?_) (fun h => absurd h (by decide))
  refine oj_run TT rfl ?_
  refine oj_split 17 rfl (fun h => ?_) (fun h => absurd h (by decide))
  refine oj_run TT rfl ?_
  refine oj_idx TT rfl rfl rfl rfl rfl rfl rfl rfl rfl H (by decide) (show (recRows awL)[(0 : Int).toNat]? = some (recCells awL[0]) from rfl) (oj_run TT rfl ?_)
  refine oj_split 24 rfl (fun h => ?_) (fun h => absurd h (by decide))
  refine oj_run TT rfl ?_
  refine oj_idx TT rfl rfl rfl rfl rfl rfl rfl rfl rfl H (by decide) (show (recRows awL)[(0 : Int).toNat]? = some (recCells awL[0]) from rfl) (oj_run TT rfl ?_)
  refine oj_split 31 rfl (fun h => ?_) (fun h => absurd h (by decide))
  refine oj_run TT rfl ?_
  refine oj_idx TT rfl rfl rfl rfl rfl rfl rfl rfl rfl H (by decide) (show (recRows awL)[(1 : Int).toNat]? = some (recCells awL[1]) from rfl) (oj_run TT rfl ?_)
  refine oj_split 38 rfl (fun h => ?_) (fun h => absurd h (by decide))
  refine oj_run TT rfl ?_
  refine oj_idx TT rfl rfl rfl rfl rfl rfl rfl rfl rfl H (by decide) (show (recRows awL)[(1 : Int).toNat]? = some (recCells awL[1]) from rfl) (oj_run TT rfl ?_)
  refine oj_split 45 rfl (fun h => ?_) (fun h => absurd h (by decide))
  refine oj_run TT rfl ?_
  refine oj_idx TT rfl rfl rfl rfl rfl rfl rfl rfl rfl H (by decide) (show (recRows awL)[(1 : Int).toNat]? = some (recCells awL[1]) from rfl) (oj_run TT rfl ?_)
  refine oj_split 52 rfl (fun h => ?_) (fun h => absurd h (by decide))
  refine oj_run TT rfl ?_
  refine oj_callP rfl rfl rfl rfl rfl Tryd.call24 (by (repeat' (first | exact trivial | exact Nat.le_of_ble_eq_true rfl | exact vCells_lt _ _ _ _ _ _ | exact decCells_lt _ _ | refine AllLt.of ?_ | refine SV.lt_tup ?_ | exact SV.lt_fn0 | exact AT.lt_fn0 | exact RepV.clo (by assumption) | constructor))) (Sound_c σ2 awL aw_ok.len aw_ok.fit aw_ok.bw ao cap H) fun v hv => ⟨.a .tt, trivial, (by rw [hv, aw_sound]; rfl), ?_⟩
  refine oj_run TT rfl ?_
  refine oj_callP rfl rfl rfl rfl rfl Tryd.call36 (by (repeat' (first | exact trivial | exact Nat.le_of_ble_eq_true rfl | exact vCells_lt _ _ _ _ _ _ | exact decCells_lt _ _ | refine AllLt.of ?_ | refine SV.lt_tup ?_ | exact SV.lt_fn0 | exact AT.lt_fn0 | exact RepV.clo (by assumption) | constructor))) (Parent_c σ2 awL aw_ok ao cap H 1) fun v hv => ⟨.a (.v (.int .i64 0)), trivial, (by rw [hv, aw_parent]; rfl), ?_⟩
  refine oj_run TT rfl ?_
  (repeat (first | refine cj_seq ?_ | (refine cj_region ?_; refine oj_run TT rfl ?_) | refine oj_then ?_ | refine oj_nil ?_ | refine cj_if_t rfl ?_ | refine cj_if_f rfl ?_ | refine cj_skip ?_ | refine cj_block ?_ | refine cj_exit ?_ | refine cj_ret ?_ | refine nj_then ?_ | refine nj_then_exit ?_ | refine nj_then_ret ?_ | refine nj_block ?_ | refine nj_block_ret ?_ | refine nj_block_out ?_ | refine nj_block_on rfl ?_ | (refine oj_band rfl rfl rfl rfl rfl rfl ?_; refine oj_run TT rfl ?_) | (refine oj_bor rfl rfl rfl rfl rfl rfl ?_; refine oj_run TT rfl ?_) | (refine oj_bandnot rfl rfl rfl rfl rfl rfl ?_; refine oj_run TT rfl ?_) | (refine oj_conv TT _ rfl rfl rfl rfl rfl rfl rfl rfl rfl ?_; refine oj_run TT rfl ?_) | (refine oj_bshl rfl rfl rfl rfl rfl rfl (by decide) ?_; refine oj_run TT rfl ?_) | (refine oj_bshr rfl rfl rfl rfl rfl rfl (by decide) ?_; refine oj_run TT rfl ?_) | (refine oj_slnil TT rfl rfl rfl rfl rfl rfl rfl rfl ?_; refine oj_run TT rfl ?_) | (refine oj_add rfl rfl rfl rfl rfl rfl (by omega) ?_; refine oj_run TT rfl ?_) | (refine oj_minus rfl rfl rfl rfl rfl rfl (by omega) ?_; refine oj_run TT rfl ?_)))
  refine nj_ret TT rfl fun β w' _ _ => ?_
  rfl
end Go.Sy
