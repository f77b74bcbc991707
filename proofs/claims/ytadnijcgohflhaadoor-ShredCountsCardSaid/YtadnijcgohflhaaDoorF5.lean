import Derived.Test.YtadnijcgohflhaaDoorF4
namespace Go.Sy
open Go.Proofs

theorem tail_len (l : List UInt8) (k : Nat) (u : UInt8) : 0 ≤ (nextAt l k u).2 ∧ (nextAt l k u).2 ≤ k + 1 := by
  unfold nextAt
  split
  · simp; omega
  · split <;> simp <;> omega

theorem next_len (l : List UInt8) : ∀ (n k : Nat), 0 ≤ (nextFrom l n k).2 ∧ (nextFrom l n k).2 ≤ l.length
  | 0, k => by simp [nextFrom]
  | n + 1, k => by
    cases l with
    | nil => simp [nextFrom]
    | cons u l =>
      simp only [nextFrom]
      split
      · exact next_len (u :: l) n (k + 1)
      · rename_i h
        simp only [not_or] at h
        have := tail_len (u :: l) k u
        omega

/-- The place of the first byte that begins no character, from the place at on; n rounds at most. -/
def checkFrom (l : List UInt8) : Nat → Nat → Int
  | 0, _ => -1
  | n + 1, at_ =>
    if at_ < l.length then
      if (utfNext (l.drop at_)).2 = 0 then at_ else checkFrom l n (at_ + (utfNext (l.drop at_)).2.toNat)
    else -1

def utfCheck (l : List UInt8) : Int := checkFrom l (l.length + 1) 0

set_option maxRecDepth 100000 in
set_option maxHeartbeats 1000000 in
theorem utfCheck_c (σ : Snap) (ao : Option Addr) (cap : Nat) (l : List UInt8) (H : SlAt σ ao l.length cap 1 (bRows l)) (hl : l.length ≤ mostLen) :
    PlainS Tryd.prog 130 [.a (.v (.slice ao l.length cap))] σ (fun v => v = .int .i64 (utfCheck l)) := by
  have hl' := hl
  simp only [mostLen] at hl'
  refine enter_p Tryd.func130 rfl rfl (by (repeat' (first | exact trivial | exact Nat.le_of_ble_eq_true rfl | exact vCells_lt _ _ _ _ _ _ | exact decCells_lt _ _ | refine AllLt.of ?_ | refine SV.lt_tup ?_ | exact SV.lt_fn0 | exact AT.lt_fn0 | exact RepV.clo (by assumption) | constructor))) fun w => ?_
  (repeat (first | refine cj_seq ?_ | (refine cj_region ?_; refine oj_run TT rfl ?_) | refine oj_then ?_ | refine oj_nil ?_ | refine cj_if_t rfl ?_ | refine cj_if_f rfl ?_ | refine cj_skip ?_ | refine cj_block ?_ | refine cj_exit ?_ | refine cj_ret ?_ | refine nj_then ?_ | refine nj_then_exit ?_ | refine nj_then_ret ?_ | refine nj_block ?_ | refine nj_block_ret ?_ | refine nj_block_out ?_ | refine nj_block_on rfl ?_ | (refine oj_band rfl rfl rfl rfl rfl rfl ?_; refine oj_run TT rfl ?_) | (refine oj_bor rfl rfl rfl rfl rfl rfl ?_; refine oj_run TT rfl ?_) | (refine oj_bandnot rfl rfl rfl rfl rfl rfl ?_; refine oj_run TT rfl ?_) | (refine oj_conv TT _ rfl rfl rfl rfl rfl rfl rfl rfl rfl ?_; refine oj_run TT rfl ?_) | (refine oj_bshl rfl rfl rfl rfl rfl rfl (by decide) ?_; refine oj_run TT rfl ?_) | (refine oj_bshr rfl rfl rfl rfl rfl rfl (by decide) ?_; refine oj_run TT rfl ?_) | (refine oj_slnil TT rfl rfl rfl rfl rfl rfl rfl rfl ?_; refine oj_run TT rfl ?_) | (refine oj_add rfl rfl rfl rfl rfl rfl (by omega) ?_; refine oj_run TT rfl ?_) | (refine oj_minus rfl rfl rfl rfl rfl rfl (by omega) ?_; refine oj_run TT rfl ?_)))
  refine cj_loop2 (fun _ _ => σ) (fun (n : Nat) (k : Nat) => [(0, .a (.v (.slice ao l.length cap))), (3, .a (.v (.int .i64 k)))]) (fun _ _ => []) (fun _ _ => []) 0
    (fun n k => k ≤ l.length ∧ l.length - k < n ∧ checkFrom l n k = utfCheck l) (fun n k => l.length - k) (l.length + 1) 0 ⟨by omega, by omega, rfl⟩ rfl (by (repeat (first | exact trivial | refine And.intro rfl ?_))) (by (repeat (first | exact trivial | refine And.intro rfl ?_))) rfl (by (repeat' (first | exact trivial | exact Nat.le_of_ble_eq_true rfl | exact vCells_lt _ _ _ _ _ _ | exact decCells_lt _ _ | refine AllLt.of ?_ | refine SV.lt_tup ?_ | exact SV.lt_fn0 | exact AT.lt_fn0 | exact RepV.clo (by assumption) | constructor))) (by (repeat' (first | exact trivial | exact Nat.le_of_ble_eq_true rfl | exact vCells_lt _ _ _ _ _ _ | exact decCells_lt _ _ | refine AllLt.of ?_ | refine SV.lt_tup ?_ | exact SV.lt_fn0 | exact AT.lt_fn0 | exact RepV.clo (by assumption) | constructor))) fun n k ⟨hk, hn, hkn⟩ => ?_
  (repeat (first | refine cj_seq ?_ | (refine cj_region ?_; refine oj_run TT rfl ?_) | refine oj_then ?_ | refine oj_nil ?_ | refine cj_if_t rfl ?_ | refine cj_if_f rfl ?_ | refine cj_skip ?_ | refine cj_block ?_ | refine cj_exit ?_ | refine cj_ret ?_ | refine nj_then ?_ | refine nj_then_exit ?_ | refine nj_then_ret ?_ | refine nj_block ?_ | refine nj_block_ret ?_ | refine nj_block_out ?_ | refine nj_block_on rfl ?_ | (refine oj_band rfl rfl rfl rfl rfl rfl ?_; refine oj_run TT rfl ?_) | (refine oj_bor rfl rfl rfl rfl rfl rfl ?_; refine oj_run TT rfl ?_) | (refine oj_bandnot rfl rfl rfl rfl rfl rfl ?_; refine oj_run TT rfl ?_) | (refine oj_conv TT _ rfl rfl rfl rfl rfl rfl rfl rfl rfl ?_; refine oj_run TT rfl ?_) | (refine oj_bshl rfl rfl rfl rfl rfl rfl (by decide) ?_; refine oj_run TT rfl ?_) | (refine oj_bshr rfl rfl rfl rfl rfl rfl (by decide) ?_; refine oj_run TT rfl ?_) | (refine oj_slnil TT rfl rfl rfl rfl rfl rfl rfl rfl ?_; refine oj_run TT rfl ?_) | (refine oj_add rfl rfl rfl rfl rfl rfl (by omega) ?_; refine oj_run TT rfl ?_) | (refine oj_minus rfl rfl rfl rfl rfl rfl (by omega) ?_; refine oj_run TT rfl ?_)))
  refine cj_if rfl (fun h => ?_) (fun h => ?_)
  · have hkl : k < l.length := by simp at h; omega
    (repeat (first | refine cj_seq ?_ | (refine cj_region ?_; refine oj_run TT rfl ?_) | refine oj_then ?_ | refine oj_nil ?_ | refine cj_if_t rfl ?_ | refine cj_if_f rfl ?_ | refine cj_skip ?_ | refine cj_block ?_ | refine cj_exit ?_ | refine cj_ret ?_ | refine nj_then ?_ | refine nj_then_exit ?_ | refine nj_then_ret ?_ | refine nj_block ?_ | refine nj_block_ret ?_ | refine nj_block_out ?_ | refine nj_block_on rfl ?_ | (refine oj_band rfl rfl rfl rfl rfl rfl ?_; refine oj_run TT rfl ?_) | (refine oj_bor rfl rfl rfl rfl rfl rfl ?_; refine oj_run TT rfl ?_) | (refine oj_bandnot rfl rfl rfl rfl rfl rfl ?_; refine oj_run TT rfl ?_) | (refine oj_conv TT _ rfl rfl rfl rfl rfl rfl rfl rfl rfl ?_; refine oj_run TT rfl ?_) | (refine oj_bshl rfl rfl rfl rfl rfl rfl (by decide) ?_; refine oj_run TT rfl ?_) | (refine oj_bshr rfl rfl rfl rfl rfl rfl (by decide) ?_; refine oj_run TT rfl ?_) | (refine oj_slnil TT rfl rfl rfl rfl rfl rfl rfl rfl ?_; refine oj_run TT rfl ?_) | (refine oj_add rfl rfl rfl rfl rfl rfl (by omega) ?_; refine oj_run TT rfl ?_) | (refine oj_minus rfl rfl rfl rfl rfl rfl (by omega) ?_; refine oj_run TT rfl ?_)))
    have hncap := H.ncap
    refine oj_slice (vl := some (.int .i64 k)) (vh := none) TT k l.length rfl rfl rfl rfl rfl rfl rfl rfl rfl rfl (.inr ⟨_, _, rfl, rfl⟩) (.inl ⟨rfl, rfl⟩) (by omega) hncap hncap ?_
    have Ht := H.sub (l := k) (k := l.length) (by omega) (by omega)
    rw [bRows_sub, List.take_length] at Ht
    generalize hao : (if cap = k then ao else ao.map (·.add (k * 1))) = ao' at Ht
    generalize hcap' : cap - k = cap' at Ht
    have hdl : (l.drop k).length = l.length - k := List.length_drop
    rw [← hdl] at Ht
    refine oj_set 13 (.a (.v (.slice ao' (l.drop k).length cap'))) rfl trivial (fun β => ?_) (oj_run TT rfl ?_)
    · rw [hdl]
    refine oj_callP rfl rfl rfl rfl rfl Tryd.call144 (by (repeat' (first | exact trivial | exact Nat.le_of_ble_eq_true rfl | exact vCells_lt _ _ _ _ _ _ | exact decCells_lt _ _ | refine AllLt.of ?_ | refine SV.lt_tup ?_ | exact SV.lt_fn0 | exact AT.lt_fn0 | exact RepV.clo (by assumption) | constructor))) (utfNext_c σ ao' cap' (l.drop k) Ht (by rw [hdl]; simp only [mostLen]; omega)) fun v hv => ⟨_, by (repeat' (first | exact trivial | exact Nat.le_of_ble_eq_true rfl | exact vCells_lt _ _ _ _ _ _ | exact decCells_lt _ _ | refine AllLt.of ?_ | refine SV.lt_tup ?_ | exact SV.lt_fn0 | exact AT.lt_fn0 | exact RepV.clo (by assumption) | constructor)), hv.symm, ?_⟩
    refine oj_run TT rfl ?_
    (repeat (first | refine cj_seq ?_ | (refine cj_region ?_; refine oj_run TT rfl ?_) | refine oj_then ?_ | refine oj_nil ?_ | refine cj_if_t rfl ?_ | refine cj_if_f rfl ?_ | refine cj_skip ?_ | refine cj_block ?_ | refine cj_exit ?_ | refine cj_ret ?_ | refine nj_then ?_ | refine nj_then_exit ?_ | refine nj_then_ret ?_ | refine nj_block ?_ | refine nj_block_ret ?_ | refine nj_block_out ?_ | refine nj_block_on rfl ?_ | (refine oj_band rfl rfl rfl rfl rfl rfl ?_; refine oj_run TT rfl ?_) | (refine oj_bor rfl rfl rfl rfl rfl rfl ?_; refine oj_run TT rfl ?_) | (refine oj_bandnot rfl rfl rfl rfl rfl rfl ?_; refine oj_run TT rfl ?_) | (refine oj_conv TT _ rfl rfl rfl rfl rfl rfl rfl rfl rfl ?_; refine oj_run TT rfl ?_) | (refine oj_bshl rfl rfl rfl rfl rfl rfl (by decide) ?_; refine oj_run TT rfl ?_) | (refine oj_bshr rfl rfl rfl rfl rfl rfl (by decide) ?_; refine oj_run TT rfl ?_) | (refine oj_slnil TT rfl rfl rfl rfl rfl rfl rfl rfl ?_; refine oj_run TT rfl ?_) | (refine oj_add rfl rfl rfl rfl rfl rfl (by omega) ?_; refine oj_run TT rfl ?_) | (refine oj_minus rfl rfl rfl rfl rfl rfl (by omega) ?_; refine oj_run TT rfl ?_)))
    have hb : 0 ≤ (utfNext (l.drop k)).2 ∧ (utfNext (l.drop k)).2 ≤ (l.drop k).length := next_len (l.drop k) 4 0
    obtain ⟨m, rfl⟩ : ∃ m, n = m + 1 := ⟨n - 1, by omega⟩
    rw [checkFrom, if_pos hkl] at hkn
    refine cj_if rfl (fun h => ?_) (fun h => ?_)
    · (repeat (first | refine cj_seq ?_ | (refine cj_region ?_; refine oj_run TT rfl ?_) | refine oj_then ?_ | refine oj_nil ?_ | refine cj_if_t rfl ?_ | refine cj_if_f rfl ?_ | refine cj_skip ?_ | refine cj_block ?_ | refine cj_exit ?_ | refine cj_ret ?_ | refine nj_then ?_ | refine nj_then_exit ?_ | refine nj_then_ret ?_ | refine nj_block ?_ | refine nj_block_ret ?_ | refine nj_block_out ?_ | refine nj_block_on rfl ?_ | (refine oj_band rfl rfl rfl rfl rfl rfl ?_; refine oj_run TT rfl ?_) | (refine oj_bor rfl rfl rfl rfl rfl rfl ?_; refine oj_run TT rfl ?_) | (refine oj_bandnot rfl rfl rfl rfl rfl rfl ?_; refine oj_run TT rfl ?_) | (refine oj_conv TT _ rfl rfl rfl rfl rfl rfl rfl rfl rfl ?_; refine oj_run TT rfl ?_) | (refine oj_bshl rfl rfl rfl rfl rfl rfl (by decide) ?_; refine oj_run TT rfl ?_) | (refine oj_bshr rfl rfl rfl rfl rfl rfl (by decide) ?_; refine oj_run TT rfl ?_) | (refine oj_slnil TT rfl rfl rfl rfl rfl rfl rfl rfl ?_; refine oj_run TT rfl ?_) | (refine oj_add rfl rfl rfl rfl rfl rfl (by omega) ?_; refine oj_run TT rfl ?_) | (refine oj_minus rfl rfl rfl rfl rfl rfl (by omega) ?_; refine oj_run TT rfl ?_)))
      refine nj_ret TT rfl fun β w' _ _ => ?_
      rw [if_pos (by simpa using h)] at hkn
      rw [← hkn]
      rfl
    · have h0 : (utfNext (l.drop k)).2 ≠ 0 := by simpa using h
      rw [if_neg h0] at hkn
      (repeat (first | refine cj_seq ?_ | (refine cj_region ?_; refine oj_run TT rfl ?_) | refine oj_then ?_ | refine oj_nil ?_ | refine cj_if_t rfl ?_ | refine cj_if_f rfl ?_ | refine cj_skip ?_ | refine cj_block ?_ | refine cj_exit ?_ | refine cj_ret ?_ | refine nj_then ?_ | refine nj_then_exit ?_ | refine nj_then_ret ?_ | refine nj_block ?_ | refine nj_block_ret ?_ | refine nj_block_out ?_ | refine nj_block_on rfl ?_ | (refine oj_band rfl rfl rfl rfl rfl rfl ?_; refine oj_run TT rfl ?_) | (refine oj_bor rfl rfl rfl rfl rfl rfl ?_; refine oj_run TT rfl ?_) | (refine oj_bandnot rfl rfl rfl rfl rfl rfl ?_; refine oj_run TT rfl ?_) | (refine oj_conv TT _ rfl rfl rfl rfl rfl rfl rfl rfl rfl ?_; refine oj_run TT rfl ?_) | (refine oj_bshl rfl rfl rfl rfl rfl rfl (by decide) ?_; refine oj_run TT rfl ?_) | (refine oj_bshr rfl rfl rfl rfl rfl rfl (by decide) ?_; refine oj_run TT rfl ?_) | (refine oj_slnil TT rfl rfl rfl rfl rfl rfl rfl rfl ?_; refine oj_run TT rfl ?_) | (refine oj_add rfl rfl rfl rfl rfl rfl (by omega) ?_; refine oj_run TT rfl ?_) | (refine oj_minus rfl rfl rfl rfl rfl rfl (by omega) ?_; refine oj_run TT rfl ?_)))
      have he : (k : Int) + (utfNext (l.drop k)).2 = ((k + (utfNext (l.drop k)).2.toNat : Nat) : Int) := by omega
      rw [he]
      refine nj_again (m, k + (utfNext (l.drop k)).2.toNat) ⟨?_, ?_, hkn⟩ ?_ rfl (by (repeat (first | exact trivial | refine And.intro rfl ?_))) (by (repeat (first | exact trivial | refine And.intro rfl ?_))) rfl (by (repeat' (first | exact trivial | exact Nat.le_of_ble_eq_true rfl | exact vCells_lt _ _ _ _ _ _ | exact decCells_lt _ _ | refine AllLt.of ?_ | refine SV.lt_tup ?_ | exact SV.lt_fn0 | exact AT.lt_fn0 | exact RepV.clo (by assumption) | constructor))) (by (repeat' (first | exact trivial | exact Nat.le_of_ble_eq_true rfl | exact vCells_lt _ _ _ _ _ _ | exact decCells_lt _ _ | refine AllLt.of ?_ | refine SV.lt_tup ?_ | exact SV.lt_fn0 | exact AT.lt_fn0 | exact RepV.clo (by assumption) | constructor))) <;> (dsimp only; omega)
  · have hkl : ¬ k < l.length := by simp at h; omega
    obtain ⟨m, rfl⟩ : ∃ m, n = m + 1 := ⟨n - 1, by omega⟩
    rw [checkFrom, if_neg hkl] at hkn
    (repeat (first | refine cj_seq ?_ | (refine cj_region ?_; refine oj_run TT rfl ?_) | refine oj_then ?_ | refine oj_nil ?_ | refine cj_if_t rfl ?_ | refine cj_if_f rfl ?_ | refine cj_skip ?_ | refine cj_block ?_ | refine cj_exit ?_ | refine cj_ret ?_ | refine nj_then ?_ | refine nj_then_exit ?_ | refine nj_then_ret ?_ | refine nj_block ?_ | refine nj_block_ret ?_ | refine nj_block_out ?_ | refine nj_block_on rfl ?_ | (refine oj_band rfl rfl rfl rfl rfl rfl ?_; refine oj_run TT rfl ?_) | (refine oj_bor rfl rfl rfl rfl rfl rfl ?_; refine oj_run TT rfl ?_) | (refine oj_bandnot rfl rfl rfl rfl rfl rfl ?_; refine oj_run TT rfl ?_) | (refine oj_conv TT _ rfl rfl rfl rfl rfl rfl rfl rfl rfl ?_; refine oj_run TT rfl ?_) | (refine oj_bshl rfl rfl rfl rfl rfl rfl (by decide) ?_; refine oj_run TT rfl ?_) | (refine oj_bshr rfl rfl rfl rfl rfl rfl (by decide) ?_; refine oj_run TT rfl ?_) | (refine oj_slnil TT rfl rfl rfl rfl rfl rfl rfl rfl ?_; refine oj_run TT rfl ?_) | (refine oj_add rfl rfl rfl rfl rfl rfl (by omega) ?_; refine oj_run TT rfl ?_) | (refine oj_minus rfl rfl rfl rfl rfl rfl (by omega) ?_; refine oj_run TT rfl ?_)))
    refine nj_ret TT rfl fun β w' _ _ => ?_
    rw [← hkn]
    rfl
end Go.Sy
