/- Parts of the proof of CGuideBelow: F31, F40, F22, F23, F24. No conditions. -/
import Derived.Test.YtadnijcgohflhaaDoorM10
namespace Go.Sy
open Go.Proofs

/-! ### GuideAdds -/

structure GaS where
  k : Nat
  ho : Option Addr
  hc : Nat
structure GaR where
  s : Snap
  ho : Option Addr
  hc : Nat
  io : Option Addr
  ic : Nat

set_option maxRecDepth 100000 in
set_option maxHeartbeats 1000000 in
theorem GuideAdds_c (σ : Snap) (ps : List SRow) (po : Option Addr) (pc : Nat) (P : SlAt σ po ps.length pc 1 (srRows ps)) (hps : ∀ p ∈ ps, SrOk σ p) (hlen : ps.length ≤ 140737488355328) :
    PlainS Tryd.prog 9 [.a (.v (.slice po ps.length pc))] σ (fun v => v = .bool true) := by
  refine enter_p Tryd.func9 rfl rfl (by (repeat' (first | exact trivial | constructor))) fun w => ?_
  (repeat (first | refine cj_seq ?_ | (refine cj_region ?_; refine oj_run TT rfl ?_) | refine oj_then ?_))
  refine oj_callP rfl rfl rfl rfl rfl Tryd.call46 (by (repeat' exact trivial)) (awake13_c σ) fun v hv => ⟨.a .tt, trivial, hv.symm, ?_⟩
  refine oj_run TT rfl ?_
  (repeat (first | refine cj_seq ?_ | (refine cj_region ?_; refine oj_run TT rfl ?_) | refine oj_then ?_))
  refine oj_callP rfl rfl rfl rfl rfl Tryd.call47 (by (repeat' (first | exact trivial | constructor))) (Few13_c σ ps hlen po pc P hps 40) fun v ⟨fb, hv, hfew⟩ => ⟨.a (.b fb), trivial, hv.symm, ?_⟩
  refine oj_run TT rfl ?_
  (repeat refine oj_then ?_)
  refine cj_if rfl (fun h => ?_) (fun h => ?_)
  · (repeat (first | refine cj_seq ?_ | (refine cj_region ?_; refine oj_run TT rfl ?_) | refine oj_then ?_ | refine cj_ret ?_ | refine nj_then_ret ?_))
    refine nj_ret TT rfl fun β w' _ _ => ?_
    rfl
  have hpl : ps.length ≤ 40 := by
    have := hfew (by simpa using h)
    omega
  (repeat (first | refine cj_seq ?_ | (refine cj_region ?_; refine oj_run TT rfl ?_) | refine cj_skip ?_ | refine nj_then ?_))
  have hfit0 : GFit 0 ⟨[], 0, []⟩ := ⟨Nat.le_refl _, Nat.le_refl _, by decide, fun _ h => (by cases h)⟩
  refine oj_callS rfl rfl rfl rfl rfl Tryd.call48 (by (repeat' (first | exact trivial | refine AllLt.of ?_ | constructor))) (Add_c σ [] 0 none 0 (SlAt.nil _ _ _ _) (fun _ h => (by cases h)) ps po pc P hps 0 hfit0 (by omega)) fun v σ1 hle1 ⟨go, gc, ido, idc, hv, HG, HD⟩ => ⟨.tup [.agg [.v (.slice go (addAll ⟨[], 0, []⟩ ps).xs.length gc), .v (.int .i64 (addAll ⟨[], 0, []⟩ ps).next)], .a (.v (.slice ido (addAll ⟨[], 0, []⟩ ps).ids.length idc))], (by (repeat' (first | exact trivial | refine AllLt.of ?_ | refine SV.lt_tup ?_ | constructor))), hv.symm, ?_⟩
  have hGok := addAll_ok (σ := σ1) ps (s := ⟨[], 0, []⟩) (fun _ h => (by cases h)) (fun p h => (hps p h).mono hle1)
  have hGfit := addAll_fit ps hfit0
  obtain ⟨hGinv, -⟩ := addAll_inv ps inv0
  have hGids := adds_len ps
  have hGat := @adds_at ps
  have hGn := hGfit.next
  have hGx := hGfit.xs
  refine oj_run TT rfl ?_
  (repeat (first | refine cj_seq ?_ | (refine cj_region ?_; refine oj_run TT rfl ?_) | refine oj_then ?_ | refine cj_block ?_))
  refine cj_cutB (fun (t : Snap × GaS) => t.1) (fun t => [(0, .a (.v (.slice po ps.length pc))), (3, .a .tt), (4, .a (.p 0 0)), (5, .a (.v (.slice ido (addAll ⟨[], 0, []⟩ ps).ids.length idc))), (6, .a (.p 1 0))])
    (fun t => [(0, .loc 71, [.v (.slice go (addAll ⟨[], 0, []⟩ ps).xs.length gc), .v (.int .i64 (addAll ⟨[], 0, []⟩ ps).next)]), (1, .loc 71, [.v (.slice t.2.ho (addAll ⟨[], 0, []⟩ ps).xs.length t.2.hc), .v (.int .i64 (addAll ⟨[], 0, []⟩ ps).next)])]) (fun _ => []) 2
    (fun t => σ1.le t.1 ∧ SlAt t.1 t.2.ho (addAll ⟨[], 0, []⟩ ps).xs.length t.2.hc 3 (lnRows (addAll ⟨[], 0, []⟩ ps).xs)) ?_ (fun t ht => ?_)
  rotate_left
  · obtain ⟨s, k, ho, hc⟩ := t
    obtain ⟨hle, HH⟩ := ht
    dsimp only at hle HH ⊢
    have HG := HG.mono hle
    have hGok := fun x h => (hGok x h).mono hle
    clear hGat
    generalize addAll ⟨[], 0, []⟩ ps = G at *
    have hnx := hGinv.next
    rw [hGids]
    (repeat refine cj_seq ?_)
    refine cj_draw [(0,.pure),(1,.pure),(2,.pure),(3,.pure),(4,.pure),(5,.pure),(6,.pure),(7,.pure),(8,.pure),(9,.quiet),(11,.quiet),(10,.keep),(12,.keep),(13,.keep),(14,.pure),(15,.pure),(16,.quiet),(17,.keep),(18,.pure),(19,.pure),(20,.pure),(21,.quiet),(22,.pure),(23,.quiet),(24,.pure),(25,.pure),(26,.pure),(27,.pure)] mixed (by kernel_rfl) (oj_run TT rfl ?_)
    refine oj_split 79 rfl (fun _ => ?_) (fun h => absurd (show decide ((ps.length : Int) = ps.length) = false from h) (by simp))
    refine oj_run TT rfl ?_
    refine oj_callS rfl rfl rfl rfl rfl Tryd.call51 (by (repeat' (first | exact trivial | refine AllLt.of ?_ | constructor))) (theirsGd_c s G.xs (by omega) go gc G.next HG) fun v σ2 hle2 ⟨bo, bc, hv, HB⟩ => ⟨.agg [.v (.slice bo G.xs.length bc), .v (.int .i64 G.next)], (by (repeat' (first | exact trivial | refine AllLt.of ?_ | constructor))), hv.symm, ?_⟩
    have HH := HH.mono hle2
    have HG := HG.mono hle2
    have hGok := fun x h => (hGok x h).mono hle2
    refine oj_run TT rfl ?_
    refine oj_callS rfl rfl rfl rfl rfl Tryd.call51 (by (repeat' (first | exact trivial | refine AllLt.of ?_ | constructor))) (theirsGd_c σ2 G.xs (by omega) ho hc G.next HH) fun v σ3 hle3 ⟨co, cc, hv, HC⟩ => ⟨.agg [.v (.slice co G.xs.length cc), .v (.int .i64 G.next)], (by (repeat' (first | exact trivial | refine AllLt.of ?_ | constructor))), hv.symm, ?_⟩
    have HB := HB.mono hle3
    have HG := HG.mono hle3
    have hGok := fun x h => (hGok x h).mono hle3
    refine oj_run TT rfl ?_
    refine oj_callP rfl rfl rfl rfl rfl Tryd.call50 (by (repeat' (first | exact trivial | refine AllLt.of ?_ | constructor))) (SameGd_c σ3 G.xs G.xs (by omega) bo co bc cc G.next G.next HB HC hGok hGok) fun v hv => ⟨.a .tt, trivial, (by rw [hv, sameLn_refl, decide_eq_true rfl]; rfl), ?_⟩
    refine oj_run TT rfl ?_
    refine oj_callP rfl rfl rfl rfl rfl Tryd.call52 (by (repeat' (first | exact trivial | refine AllLt.of ?_ | constructor))) (SoundGd_c σ3 G.xs (by omega) go gc G.next HG hGok) fun v hv => ⟨.a .tt, trivial, (by rw [hv, sound_of hGinv]; rfl), ?_⟩
    refine oj_run TT rfl ?_
    (repeat (first | refine oj_then ?_ | refine cj_ret ?_))
    refine nj_ret TT rfl fun β w' _ _ => ?_
    exact congrArg Value.bool (decide_eq_true hnx)
  refine cj_loop2 (fun (s : Snap) (_ : GaS) => s) (fun _ t => [(0, .a (.v (.slice po ps.length pc))), (3, .a .tt), (4, .a (.p 0 0)), (5, .a (.v (.slice ido (addAll ⟨[], 0, []⟩ ps).ids.length idc))), (6, .a (.p 1 0)), (7, .a (.v (.int .i64 (t.k : Nat))))])
    (fun _ t => [(0, .loc 71, [.v (.slice go (addAll ⟨[], 0, []⟩ ps).xs.length gc), .v (.int .i64 (addAll ⟨[], 0, []⟩ ps).next)]), (1, .loc 71, [.v (.slice t.ho (addAll ⟨[], 0, []⟩ (ps.take t.k)).xs.length t.hc), .v (.int .i64 (addAll ⟨[], 0, []⟩ (ps.take t.k)).next)])]) (fun _ _ => []) 2
    (fun s t => σ1.le s ∧ t.k ≤ ps.length ∧ SlAt s t.ho (addAll ⟨[], 0, []⟩ (ps.take t.k)).xs.length t.hc 3 (lnRows (addAll ⟨[], 0, []⟩ (ps.take t.k)).xs)) (fun _ t => ps.length - t.k) σ1 ⟨0, none, 0⟩ ⟨Snap.le_refl _, Nat.zero_le _, SlAt.nil _ _ _ _⟩ rfl (by (repeat (first | exact trivial | refine And.intro rfl ?_))) (by (repeat (first | exact trivial | refine And.intro rfl ?_))) rfl (by (repeat' (first | exact trivial | exact Nat.le_of_ble_eq_true rfl | constructor))) (by (repeat' (first | exact trivial | exact Nat.le_of_ble_eq_true rfl | refine AllLt.of ?_ | constructor))) fun s ⟨k, ho, hc⟩ ⟨hle, hk, HH⟩ => ?_
  dsimp only at hk HH ⊢
  (repeat (first | refine cj_seq ?_ | (refine cj_region ?_; refine oj_run TT rfl ?_) | refine oj_then ?_))
  refine cj_if rfl (fun h => ?_) (fun h => ?_)
  rotate_left
  · have hk0 : k = ps.length := by have := of_decide_eq_false h; omega
    subst hk0
    rw [List.take_length] at HH ⊢
    (repeat (first | refine cj_exit ?_ | refine nj_then_exit ?_ | refine nj_block_out ?_))
    refine nj_again (s, (⟨ps.length, ho, hc⟩ : GaS)) ⟨hle, HH⟩ Nat.zero_lt_one rfl (by (repeat (first | exact trivial | refine And.intro rfl ?_))) (by (repeat (first | exact trivial | refine And.intro rfl ?_))) rfl (by (repeat' (first | exact trivial | exact Nat.le_of_ble_eq_true rfl | constructor))) (by (repeat' (first | exact trivial | exact Nat.le_of_ble_eq_true rfl | refine AllLt.of ?_ | constructor)))
  have hkl : k < ps.length := by have := of_decide_eq_true h; omega
  have hpk : ps[k]? = some ps[k] := List.getElem?_eq_getElem hkl
  have hrow := srRows_get hpk
  obtain ⟨id, hid, hfind, hone⟩ := hGat hpk
  have hpo := (hps ps[k] (List.getElem_mem hkl)).mono (Snap.le_trans hle1 hle)
  have hnext : addAll ⟨[], 0, []⟩ (ps.take (k + 1)) = addOne (addAll ⟨[], 0, []⟩ (ps.take k)) ps[k] := by
    rw [List.take_succ_eq_append_getElem hkl]
    unfold addAll
    rw [List.foldl_append]
    rfl
  have hHok := addAll_ok (σ := s) (ps.take k) (s := ⟨[], 0, []⟩) (fun _ h => (by cases h)) (fun p h => (hps p (List.mem_of_mem_take h)).mono (Snap.le_trans hle1 hle))
  have hHfit := (addAll_fit (ps.take k) hfit0).mono (n := 40) (by rw [List.length_take]; omega)
  have P' := P.mono (Snap.le_trans hle1 hle)
  have hone' : (ps.take (k + 1)).drop k = [ps[k]] := by
    rw [List.take_succ_eq_append_getElem hkl, List.drop_append_of_le_length (by rw [List.length_take]; omega), List.drop_eq_nil_of_le (by rw [List.length_take]; omega)]
    rfl
  have P1 := P'.sub (l := k) (k := k + 1) (Nat.le_succ k) hkl
  have e1 : ((srRows ps).take (k + 1)).drop k = srRows [ps[k]] := by
    unfold srRows
    rw [← List.map_take, ← List.map_drop, hone']
  rw [e1, show k + 1 - k = 1 by omega] at P1
  have HG := HG.mono hle
  have HD := HD.mono hle
  have hGok := fun x h => (hGok x h).mono hle
  have hrest : ∀ s' : Snap, s.le s' → σ1.le s' := fun s' h => Snap.le_trans hle h
  generalize ps[k] = p at *
  generalize hHk : addAll ⟨[], 0, []⟩ (ps.take k) = K at *
  have hids := addOne_ids K.xs K.next K.ids p
  have hfitK : GFit 40 ⟨K.xs, K.next, []⟩ := ⟨hHfit.xs, Nat.zero_le _, hHfit.next, hHfit.cnt⟩
  have hall : addAll ⟨K.xs, K.next, []⟩ [p] = addOne ⟨K.xs, K.next, []⟩ p := rfl
  have hol : (addOne ⟨K.xs, K.next, []⟩ p).ids.length = 1 := by rw [hone]; rfl
  have hx1 : (addOne K p).xs = (addOne ⟨K.xs, K.next, []⟩ p).xs := hids.1
  have hn1 : (addOne K p).next = (addOne ⟨K.xs, K.next, []⟩ p).next := hids.2
  have hadd := fun (qo : Option Addr) (qc : Nat) (hP : SlAt s qo 1 qc 1 (srRows [p])) => Add_c s K.xs K.next ho hc HH hHok [p] qo qc hP (fun q hq => by rw [List.mem_singleton.1 hq]; exact hpo) 40 hfitK (by show 40 + 1 ≤ 1000000; omega)
  rw [hall, hol, hone] at hadd
  clear hids hall hol hone hfitK HH hHok hHfit hGat
  generalize addOne ⟨K.xs, K.next, []⟩ p = r at *
  (repeat (first | refine cj_seq ?_ | refine cj_skip ?_ | refine cj_block ?_ | refine nj_then ?_))
  refine cj_cutN (fun (t : GaR) => t.s) (fun t => [(0, .a (.v (.slice po ps.length pc))), (3, .a .tt), (4, .a (.p 0 0)), (5, .a (.v (.slice ido (addAll ⟨[], 0, []⟩ ps).ids.length idc))), (6, .a (.p 1 0)), (7, .a (.v (.int .i64 (k : Nat)))), (8, .a (.p 2 0)), (9, .a (.v (.slice t.io 1 t.ic)))])
    (fun t => [(0, .loc 71, [.v (.slice go (addAll ⟨[], 0, []⟩ ps).xs.length gc), .v (.int .i64 (addAll ⟨[], 0, []⟩ ps).next)]), (1, .loc 71, [.v (.slice ho K.xs.length hc), .v (.int .i64 K.next)]), (2, .loc 71, [.v (.slice t.ho r.xs.length t.hc), .v (.int .i64 r.next)])]) (fun _ => []) 3
    (fun t => s.le t.s ∧ SlAt t.s t.ho r.xs.length t.hc 3 (lnRows r.xs) ∧ SlAt t.s t.io 1 t.ic 1 (idRows [id])) ?_ (fun t ht => ?_)
  · refine cj_drawG 13 [1, 2, 3, 4, 5, 7, 8, 9, 12] mixed (by kernel_rfl) rfl ?_
    refine gj_val (i := 1) TT rfl (by kernel_rfl) (by kernel_rfl) rfl rfl rfl rfl rfl ?_
    refine gj_val (i := 2) TT rfl (by kernel_rfl) (by kernel_rfl) rfl rfl rfl rfl rfl ?_
    refine gj_val (i := 3) TT rfl (by kernel_rfl) (by kernel_rfl) rfl rfl rfl rfl rfl ?_
    refine gj_add (i := 4) rfl rfl (by kernel_rfl) (by kernel_rfl) rfl rfl rfl rfl rfl rfl (by omega) ?_
    refine gj_slice (i := 5) TT k (k + 1) rfl rfl (by kernel_rfl) (by kernel_rfl) rfl rfl rfl rfl rfl rfl rfl rfl rfl rfl (.inr ⟨_, _, rfl, rfl⟩) (.inr ⟨_, _, rfl, rfl⟩) (Nat.le_succ k) (Nat.le_trans hkl P'.ncap) P'.ncap ?_
    rw [show k + 1 - k = 1 by omega]
    refine gj_val (i := 0) TT rfl (by kernel_rfl) (by kernel_rfl) rfl rfl rfl rfl rfl ?_
    refine gj_two (i := 6) (j := 10) (by kernel_rfl) ?_ ?_
    · refine gk_call rfl rfl rfl rfl rfl Tryd.call48 (by (repeat' (first | exact trivial | refine AllLt.of ?_ | constructor))) (hadd _ _ P1) fun v σ2 hle2 ⟨bo, bc, io, ic, hv, HB, HI⟩ => ⟨.tup [.agg [.v (.slice bo r.xs.length bc), .v (.int .i64 r.next)], .a (.v (.slice io 1 ic))], (by (repeat' (first | exact trivial | refine AllLt.of ?_ | refine SV.lt_tup ?_ | constructor))), hv.symm, ?_⟩
      refine gj_order [(7,.pure),(8,.pure),(9,.pure),(10,.keep),(11,.sink),(12,.pure)] rfl rfl (by kernel_rfl) ?_
      refine oj_run TT rfl ?_
      (repeat refine oj_nil ?_)
      refine nj_again (⟨σ2, bo, bc, io, ic⟩ : GaR) ⟨hle2, HB, HI⟩ Nat.zero_lt_one rfl (by (repeat (first | exact trivial | refine And.intro rfl ?_))) (by (repeat (first | exact trivial | refine And.intro rfl ?_))) rfl (by (repeat' (first | exact trivial | exact Nat.le_of_ble_eq_true rfl | constructor))) (by (repeat' (first | exact trivial | exact Nat.le_of_ble_eq_true rfl | refine AllLt.of ?_ | constructor)))
    · refine gk_new TT rfl rfl rfl rfl rfl ?_
      refine gj_order [(6,.keep),(7,.pure),(8,.pure),(9,.pure),(11,.sink),(12,.pure)] rfl rfl (by kernel_rfl) ?_
      refine oj_callS rfl rfl rfl rfl rfl Tryd.call48 (by (repeat' (first | exact trivial | refine AllLt.of ?_ | constructor))) (hadd _ _ P1) fun v σ2 hle2 ⟨bo, bc, io, ic, hv, HB, HI⟩ => ⟨.tup [.agg [.v (.slice bo r.xs.length bc), .v (.int .i64 r.next)], .a (.v (.slice io 1 ic))], (by (repeat' (first | exact trivial | refine AllLt.of ?_ | refine SV.lt_tup ?_ | constructor))), hv.symm, ?_⟩
      refine oj_run TT rfl ?_
      (repeat refine oj_nil ?_)
      refine nj_again (⟨σ2, bo, bc, io, ic⟩ : GaR) ⟨hle2, HB, HI⟩ Nat.zero_lt_one rfl (by (repeat (first | exact trivial | refine And.intro rfl ?_))) (by (repeat (first | exact trivial | refine And.intro rfl ?_))) rfl (by (repeat' (first | exact trivial | exact Nat.le_of_ble_eq_true rfl | constructor))) (by (repeat' (first | exact trivial | exact Nat.le_of_ble_eq_true rfl | refine AllLt.of ?_ | constructor)))
  obtain ⟨σ2, bo, bc, io, ic⟩ := t
  obtain ⟨hle2, HB, HI⟩ := ht
  dsimp only at hle2 HB HI ⊢
  have P2 := P'.mono hle2
  have HD := HD.mono hle2
  have HG := HG.mono hle2
  have hGok := fun x h => (hGok x h).mono hle2
  have hpo := hpo.mono hle2
  have hrest := hrest σ2 hle2
  generalize addAll ⟨[], 0, []⟩ ps = G at *
  (repeat (first | refine cj_seq ?_ | (refine cj_region ?_; refine oj_run TT rfl ?_) | refine oj_then ?_))
  refine cj_draw [(0,.pure),(1,.pure),(2,.pure),(3,.pure),(4,.pure),(5,.pure),(6,.pure),(7,.pure),(8,.pure),(9,.pure),(10,.pure),(11,.pure),(12,.quiet),(13,.pure),(14,.pure),(15,.pure),(16,.quiet),(17,.pure),(18,.pure),(19,.pure),(20,.quiet),(21,.pure),(22,.pure),(23,.pure),(24,.quiet),(26,.pure),(27,.pure),(28,.pure),(29,.quiet),(25,.keep),(30,.pure),(31,.pure)] mixed (by kernel_rfl) (oj_run TT rfl ?_)
  refine oj_split 42 rfl (fun h => absurd (show (!decide ((1 : Int) = 1)) = true from h) (by decide)) (fun _ => ?_)
  refine oj_run TT rfl ?_
  refine oj_split 48 rfl (fun h => ?_) (fun _ => ?_)
  · have := of_decide_eq_true (show decide ((k : Int) ≥ G.ids.length) = true from h)
    omega
  refine oj_run TT rfl ?_
  refine oj_idx TT rfl rfl rfl rfl rfl rfl rfl rfl rfl HI (by omega) (show (idRows [id])[(0 : Int).toNat]? = some [.v (.int .i64 id)] from rfl) (oj_run TT rfl ?_)
  refine oj_idx TT rfl rfl rfl rfl rfl rfl rfl rfl rfl HD (by omega) (idRows_get hid) (oj_run TT rfl ?_)
  refine oj_split 58 rfl (fun h => absurd (show (!decide (id = id)) = true from h) (by simp)) (fun _ => ?_)
  refine oj_run TT rfl ?_
  refine oj_idx TT rfl rfl rfl rfl rfl rfl rfl rfl rfl P2 (by omega) hrow (oj_run TT rfl ?_)
  refine oj_idx TT rfl rfl rfl rfl rfl rfl rfl rfl rfl HD (by omega) (idRows_get hid) (oj_run TT rfl ?_)
  refine oj_callP rfl rfl rfl rfl rfl Tryd.call49 (by (repeat' (first | exact trivial | refine AllLt.of ?_ | constructor))) (FindGd_c σ2 G.xs (by omega) go gc G.next HG hGok p.ss p.ao p.cap hpo.2) fun v hv => ⟨.a (.v (.int .i64 id)), trivial, (by rw [hv, hfind]; rfl), ?_⟩
  refine oj_run TT rfl ?_
  (repeat refine oj_then ?_)
  refine cj_if rfl (fun h => absurd (show (!decide (id = id)) = true from h) (by simp)) (fun _ => ?_)
  (repeat (first | (refine cj_region ?_; refine oj_run TT rfl ?_) | refine oj_nil ?_ | refine cj_skip ?_ | refine nj_then ?_ | refine nj_block ?_ | (refine oj_add rfl rfl rfl rfl rfl rfl (by omega) ?_; refine oj_run TT rfl ?_)))
  refine nj_again (σ2, (⟨k + 1, bo, bc⟩ : GaS)) ⟨hrest, hkl, by dsimp only; rw [hnext, hx1]; exact HB⟩ (by dsimp only; omega) rfl (by (repeat (first | exact trivial | refine And.intro rfl ?_))) ?_ rfl (by (repeat' (first | exact trivial | exact Nat.le_of_ble_eq_true rfl | constructor))) (by (repeat' (first | exact trivial | exact Nat.le_of_ble_eq_true rfl | refine AllLt.of ?_ | constructor)))
  dsimp only
  rw [hnext, hx1, hn1]
  (repeat (first | exact trivial | refine And.intro rfl ?_))
end Go.Sy
namespace Go.Sy
open Go.Proofs

/-! ### Lines that are handed out as an own array -/

set_option maxRecDepth 100000 in
set_option maxHeartbeats 1000000 in
theorem all_f (σ : Snap) (xs : List GLine) (hl : xs.length ≤ 1000000) (ao : Option Addr) (cap : Nat) (next : Int) (H : SlAt σ ao xs.length cap 3 (lnRows xs)) (f : FuncId) (caps : List PT) (hcap : LtAll (caps.map ptSV))
    (hcall : ∀ args w, (callFunc f args).run Tryd.prog w = .ok (.enter f args) w) (q : Nat → GLine → Bool) (hq : ∀ (k : Nat) x, xs[k]? = some x → PlainS Tryd.prog f (.a (.v (.int .i64 k)) :: .agg (lnCells x) :: caps.map ptSV) σ (fun v => v = .bool (q k x))) (hlt : (SV.a (.fn (.func f) caps)).lt 0) :
    FnS Tryd.prog 94 [.agg [.v (.slice ao xs.length cap), .v (.int .i64 next)], .a (.fn (.func f) caps)] σ [] (fun v _ A' => ∃ oo oc, v = .slice oo (allG q xs 0).length oc ∧ (allG q xs 0).length ≤ oc ∧ A' = [idE oo oc (allG q xs 0)]) := by
  refine enter_f Tryd.func94 rfl rfl ⟨(by (repeat' (first | exact trivial | refine AllLt.of ?_ | constructor))), hlt, trivial⟩ fun w => ?_
  (repeat (first | refine cj_seq ?_ | (refine cj_region ?_; refine oj_run TT rfl ?_) | refine oj_then ?_ | refine cj_block ?_))
  refine cj_nilarr 3 1 ?_
  skip
  refine cj_loop (fun (_ : AlS) => σ) (fun t => [(1, .a (.fn (.func f) caps)), (5, .a (.v (.slice t.oo t.o.length t.oc))), (9, .a (.v (.slice ao xs.length cap))), (10, .a (.v (.int .i64 xs.length))), (11, .a (.v (.int .i64 (t.k : Nat))))]) (fun _ => []) (fun t => [idE t.oo t.oc t.o]) 0
    (fun t => t.k ≤ xs.length ∧ t.o ++ allG q (xs.drop t.k) t.k = allG q xs 0 ∧ t.o.length ≤ t.oc ∧ t.o.length ≤ t.k) (fun t => xs.length - t.k) ⟨0, [], none, 0⟩ ⟨Nat.zero_le _, rfl, Nat.le_refl _, Nat.le_refl _⟩ rfl (by (repeat (first | exact trivial | refine And.intro rfl ?_))) (by (repeat (first | exact trivial | refine And.intro rfl ?_))) rfl ⟨hlt, trivial, trivial, trivial, trivial, trivial⟩ trivial fun ⟨k, o, oo, oc⟩ ⟨hk, hp, hoc, hok⟩ => ?_
  dsimp only at hk hp hoc hok ⊢
  (repeat (first | refine cj_seq ?_ | (refine cj_region ?_; refine oj_run TT rfl ?_) | refine oj_then ?_))
  refine cj_if rfl (fun h => ?_) (fun h => ?_)
  rotate_left
  · have hk0 : k = xs.length := by have := of_decide_eq_false h; omega
    rw [hk0, List.drop_length, allG, List.append_nil] at hp
    subst hp
    (repeat (first | refine cj_seq ?_ | (refine cj_region ?_; refine oj_run TT rfl ?_) | refine oj_then ?_ | refine cj_exit ?_ | refine cj_ret ?_ | refine nj_then ?_ | refine nj_then_exit ?_ | refine nj_block_out ?_))
    refine nj_fret TT rfl fun β w' _ _ => ?_
    exact ⟨oo, oc, rfl, hoc, rfl⟩
  have hkl : k < xs.length := by have := of_decide_eq_true h; omega
  have hxk : xs[k]? = some xs[k] := List.getElem?_eq_getElem hkl
  have hra := lnRows_get hxk
  have hqx := hq k xs[k] hxk
  rw [List.drop_eq_getElem_cons hkl, allG] at hp
  generalize xs[k] = x at *
  (repeat (first | refine cj_seq ?_ | (refine cj_region ?_; refine oj_run TT rfl ?_) | refine cj_skip ?_ | refine cj_block ?_ | refine nj_then ?_))
  refine oj_idx TT rfl rfl rfl rfl rfl rfl rfl rfl rfl H (by omega) hra (oj_run TT rfl ?_)
  (repeat (first | refine cj_seq ?_ | (refine cj_region ?_; refine oj_run TT rfl ?_) | refine oj_then ?_))
  refine oj_callP (ys := .a (.v (.int .i64 k)) :: .agg (lnCells x) :: caps.map ptSV) rfl rfl rfl rfl rfl hcall ⟨trivial, lnCells_lt 0 x, hcap⟩ hqx fun v hv => ⟨.a (.b (q k x)), trivial, hv.symm, ?_⟩
  refine oj_run TT rfl ?_
  (repeat refine oj_then ?_)
  refine cj_if rfl (fun h => ?_) (fun h => ?_)
  · rw [h, if_pos rfl] at hp
    (repeat (refine cj_region ?_; refine oj_run TT rfl ?_))
    refine oj_append_lit TT 0 rfl rfl rfl rfl rfl rfl rfl rfl rfl rfl rfl rfl rfl rfl rfl rfl rfl rfl (by (repeat' (first | exact trivial | refine AllLt.of ?_ | constructor))) rfl (by omega) (by show (o.length + 1) * 8 ≤ _; omega) fun oo' oc' hoc' => oj_run TT rfl ?_
    (repeat (first | (refine cj_region ?_; refine oj_run TT rfl ?_) | refine oj_nil ?_ | refine nj_then ?_ | refine nj_block ?_ | (refine oj_add rfl rfl rfl rfl rfl rfl (by omega) ?_; refine oj_run TT rfl ?_)))
    refine nj_again (⟨k + 1, o ++ [x.id], oo', oc'⟩ : AlS) ⟨hkl, by dsimp only; rw [List.append_assoc]; exact hp, by dsimp only; rw [List.length_append]; exact hoc', by dsimp only; rw [List.length_append, List.length_singleton]; omega⟩ (by dsimp only; omega) rfl ?_ (by (repeat (first | exact trivial | refine And.intro rfl ?_))) ?_ ⟨hlt, trivial, trivial, trivial, trivial, trivial⟩ trivial
    · dsimp only
      rw [List.length_append]
      (repeat (first | exact trivial | refine And.intro rfl ?_))
    · show [_] = [_]
      dsimp only
      unfold idE idXs
      rw [List.map_append, List.length_append]
      rfl
  · rw [h, if_neg (by simp)] at hp
    (repeat (first | (refine cj_region ?_; refine oj_run TT rfl ?_) | refine oj_nil ?_ | refine cj_skip ?_ | refine nj_then ?_ | refine nj_block ?_ | (refine oj_add rfl rfl rfl rfl rfl rfl (by omega) ?_; refine oj_run TT rfl ?_)))
    refine nj_again (⟨k + 1, o, oo, oc⟩ : AlS) ⟨hkl, hp, hoc, by dsimp only; omega⟩ (by dsimp only; omega) rfl (by (repeat (first | exact trivial | refine And.intro rfl ?_))) (by (repeat (first | exact trivial | refine And.intro rfl ?_))) rfl ⟨hlt, trivial, trivial, trivial, trivial, trivial⟩ trivial

set_option maxRecDepth 100000 in
set_option maxHeartbeats 1000000 in
theorem Match_f (σ : Snap) (xs : List GLine) (hxl : xs.length ≤ 1000000) (ao : Option Addr) (cap : Nat) (next : Int) (H : SlAt σ ao xs.length cap 3 (lnRows xs)) (hx : ∀ x ∈ xs, LnOk σ x)
    (ps : List GPat) (hl : ps.length ≤ 1000000) (po : Option Addr) (pc : Nat) (P : SlAt σ po ps.length pc 2 (ptRows ps)) :
    FnS Tryd.prog 55 [.agg [.v (.slice ao xs.length cap), .v (.int .i64 next)], .a (.v (.slice po ps.length pc))] σ [] (fun v _ A' => ∃ oo oc, v = .slice oo (matchIds xs ps).length oc ∧ (matchIds xs ps).length ≤ oc ∧ A' = [idE oo oc (matchIds xs ps)]) := by
  refine enter_f Tryd.func55 rfl rfl (by (repeat' (first | exact trivial | refine AllLt.of ?_ | constructor))) fun w => ?_
  (repeat (first | refine cj_seq ?_ | (refine cj_region ?_; refine oj_run TT rfl ?_) | refine oj_then ?_))
  refine oj_own 1 1 1 rfl (by (repeat' (first | exact trivial | refine AllLt.of ?_ | constructor))) rfl (by decide) fun g => ?_
  refine oj_seal 0 rfl rfl rfl fun σ1 hle1 hS => ?_
  refine oj_callF [] (A0 := []) (Ar := []) rfl rfl rfl rfl rfl rfl rfl Tryd.call94 ⟨(by (repeat' (first | exact trivial | refine AllLt.of ?_ | constructor))), fn_lt1 (.func 95) g 0, trivial⟩ (all_f σ1 xs hxl ao cap next (H.mono hle1) 95 [ptrTo g] ⟨trivial, trivial⟩ Tryd.call95 (fun _ x => matchG x.st ps) (fun k x hk => match1_c σ1 k x ((hx x (List.mem_of_getElem? hk)).mono hle1) ps hl po pc (P.mono hle1) g (cell_of hS)) (fn_lt1 (.func 95) g 0)) fun v σ2 A2 hle2 ⟨oo, oc, hv, hoc, hA⟩ => ⟨.a (.v (.slice oo (matchIds xs ps).length oc)), trivial, hv.symm, ?_⟩
  subst hA
  refine oj_run TT rfl ?_
  (repeat (first | refine oj_then ?_ | refine cj_ret ?_))
  refine nj_fret TT rfl fun β w' _ _ => ?_
  exact ⟨oo, oc, rfl, hoc, rfl⟩

/-! ### SameInts -/

set_option maxRecDepth 100000 in
set_option maxHeartbeats 1000000 in
theorem SameInts_c (σ : Snap) (a b : List Int) (hl : a.length ≤ 140737488355328) (ao bo : Option Addr) (ac bc : Nat) (HA : SlAt σ ao a.length ac 1 (idRows a)) (HB : SlAt σ bo b.length bc 1 (idRows b)) :
    PlainS Tryd.prog 38 [.a (.v (.slice ao a.length ac)), .a (.v (.slice bo b.length bc))] σ (fun x => x = .bool (decide (a = b))) := by
  refine enter_p Tryd.func38 rfl rfl (by (repeat' (first | exact trivial | constructor))) fun w => ?_
  (repeat (first | refine cj_seq ?_ | (refine cj_region ?_; refine oj_run TT rfl ?_) | refine oj_then ?_))
  refine cj_if rfl (fun h => ?_) (fun h => ?_)
  · have h : ¬ (a.length : Int) = b.length := by simpa using h
    (repeat (first | refine cj_seq ?_ | (refine cj_region ?_; refine oj_run TT rfl ?_) | refine oj_then ?_ | refine cj_ret ?_ | refine nj_then_ret ?_))
    refine nj_ret TT rfl fun β w' _ _ => ?_
    rw [decide_eq_false (fun e => h (by rw [e]))]
    rfl
  have hlen : a.length = b.length := by
    have h : (a.length : Int) = b.length := by simpa using h
    omega
  (repeat (first | refine cj_seq ?_ | (refine cj_region ?_; refine oj_run TT rfl ?_) | refine oj_then ?_ | refine cj_skip ?_ | refine cj_block ?_ | refine nj_then ?_))
  refine cj_loop (fun (_ : Nat) => σ) (fun k => [(0, .a (.v (.slice ao a.length ac))), (1, .a (.v (.slice bo b.length bc))), (5, .a (.v (.int .i64 k)))]) (fun _ => []) (fun _ => []) 0
    (fun k => k ≤ a.length ∧ a.take k = b.take k) (fun k => a.length - k) 0 ⟨Nat.zero_le _, rfl⟩ rfl (by (repeat (first | exact trivial | refine And.intro rfl ?_))) (by (repeat (first | exact trivial | refine And.intro rfl ?_))) rfl (by (repeat' (first | exact trivial | constructor))) (by (repeat' exact trivial)) fun k ⟨hk, hp⟩ => ?_
  (repeat (first | refine cj_seq ?_ | (refine cj_region ?_; refine oj_run TT rfl ?_) | refine oj_then ?_))
  refine cj_if rfl (fun h => ?_) (fun h => ?_)
  rotate_left
  · have hk0 : k = a.length := by have := of_decide_eq_false h; omega
    subst hk0
    rw [List.take_length, hlen, List.take_length] at hp
    (repeat (first | refine cj_seq ?_ | (refine cj_region ?_; refine oj_run TT rfl ?_) | refine oj_then ?_ | refine cj_exit ?_ | refine cj_ret ?_ | refine nj_then ?_ | refine nj_then_exit ?_ | refine nj_block_out ?_))
    refine nj_ret TT rfl fun β w' _ _ => ?_
    rw [decide_eq_true hp]
    rfl
  have hkl : k < a.length := by have := of_decide_eq_true h; omega
  have hkl' : k < b.length := by omega
  have hra := idRows_get (List.getElem?_eq_getElem hkl)
  have hrb := idRows_get (List.getElem?_eq_getElem hkl')
  have hne : a[k] ≠ b[k] → a ≠ b := fun hn e => hn (by subst e; rfl)
  have hiff : a[k] = b[k] → a.take (k + 1) = b.take (k + 1) := fun e => by rw [List.take_succ_eq_append_getElem hkl, List.take_succ_eq_append_getElem hkl', hp, e]
  generalize a[k] = x at *
  generalize b[k] = y at *
  (repeat (first | refine cj_seq ?_ | refine cj_skip ?_ | refine cj_block ?_ | refine nj_then ?_))
  refine cj_draw [(0,.pure),(1,.pure),(2,.pure),(3,.quiet),(4,.pure),(5,.pure),(6,.pure),(7,.quiet),(8,.pure)] mixed (by kernel_rfl) (oj_run TT rfl ?_)
  refine oj_idx TT rfl rfl rfl rfl rfl rfl rfl rfl rfl HA (by omega) hra (oj_run TT rfl ?_)
  refine oj_idx TT rfl rfl rfl rfl rfl rfl rfl rfl rfl HB (by omega) hrb (oj_run TT rfl ?_)
  (repeat refine oj_then ?_)
  refine cj_if rfl (fun h => ?_) (fun h => ?_)
  · have h : ¬ x = y := by simpa using h
    (repeat (first | refine cj_seq ?_ | (refine cj_region ?_; refine oj_run TT rfl ?_) | refine oj_then ?_ | refine cj_ret ?_ | refine nj_then_ret ?_ | refine nj_block_ret ?_))
    refine nj_ret TT rfl fun β w' _ _ => ?_
    rw [decide_eq_false (hne h)]
    rfl
  · have h : x = y := by simpa using h
    (repeat (first | (refine cj_region ?_; refine oj_run TT rfl ?_) | refine oj_nil ?_ | refine cj_skip ?_ | refine nj_then ?_ | refine nj_block ?_ | (refine oj_add rfl rfl rfl rfl rfl rfl (by omega) ?_; refine oj_run TT rfl ?_)))
    refine nj_again (k + 1) ⟨hkl, hiff h⟩ (by omega) rfl (by (repeat (first | exact trivial | refine And.intro rfl ?_))) (by (repeat (first | exact trivial | refine And.intro rfl ?_))) rfl (by (repeat' (first | exact trivial | constructor))) (by (repeat' exact trivial))

/-! ### A summary of the document's -/

set_option maxRecDepth 100000 in
set_option maxHeartbeats 1000000 in
theorem ours13_c (σ : Snap) (xs : List GLine) (hl : xs.length ≤ 1000000) (ao : Option Addr) (cap : Nat) (next : Int) (H : SlAt σ ao xs.length cap 3 (lnRows xs)) :
    PureS Tryd.prog 59 [.agg [.v (.slice ao xs.length cap), .v (.int .i64 next)]] σ (fun v σ' => ∃ bo bc, v = .agg #[.slice bo xs.length bc, .int .i64 next] ∧ SlAt σ' bo xs.length bc 3 (lnRows xs)) := by
  refine enter_s Tryd.func59 rfl rfl (by (repeat' (first | exact trivial | refine AllLt.of ?_ | constructor))) fun w => ?_
  (repeat (first | refine cj_seq ?_ | (refine cj_region ?_; refine oj_run TT rfl ?_) | refine oj_then ?_ | refine cj_block ?_))
  refine cj_nilarr 85 3 ?_
  refine cj_cutB (fun (_ : Option Addr × Nat) => σ) (fun s => [(2, .a (.p 1 0)), (3, .a (.p 2 0))]) (fun s => [(1, .loc 71, [.v (.slice none 0 0), .v (.int .i64 0)]), (2, .loc 71, [.v (.slice s.1 xs.length s.2), .v (.int .i64 next)])])
    (fun s => [lnE s.1 s.2 xs]) 3 (fun s => xs.length ≤ s.2) ?_ (fun s hs => ?_)
  rotate_left
  · obtain ⟨bo, bc⟩ := s
    dsimp only at hs ⊢
    (repeat (first | refine cj_seq ?_ | (refine cj_region ?_; refine oj_run TT rfl ?_) | refine oj_then ?_ | refine cj_ret ?_))
    refine nj_seal 0 rfl rfl fun σ2 hle2 hS1 => ?_
    refine nj_ret TT rfl fun β w' _ _ => ?_
    exact ⟨bo, bc, rfl, ln_sealed hS1 hs⟩
  refine cj_loop2 (fun _ (_ : Option Addr × Nat) => σ) (fun (k : Nat) s => [(1, .a (.p 0 0)), (2, .a (.p 1 0)), (3, .a (.p 2 0)), (4, .a (.v (.int .i64 k)))])
    (fun k s => [(0, .loc 79, [.v (.slice ao xs.length cap), .v (.int .i64 next)]), (1, .loc 71, [.v (.slice none 0 0), .v (.int .i64 0)]), (2, .loc 71, [.v (.slice s.1 (xs.take k).length s.2), .v (.int .i64 next)])]) (fun k s => [lnE s.1 s.2 (xs.take k)]) 3
    (fun k s => k ≤ xs.length ∧ k ≤ s.2) (fun k _ => xs.length - k) 0 (none, 0) ⟨Nat.zero_le _, Nat.le_refl _⟩ rfl (by (repeat (first | exact trivial | refine And.intro rfl ?_))) (by (repeat (first | exact trivial | refine And.intro rfl ?_))) rfl (by (repeat' (first | exact trivial | exact Nat.le_of_ble_eq_true rfl | constructor))) (by (repeat' (first | exact trivial | exact Nat.le_of_ble_eq_true rfl | refine AllLt.of ?_ | constructor))) fun k ⟨bo, bc⟩ ⟨hk, hbc⟩ => ?_
  dsimp only at hbc ⊢
  (repeat (first | refine cj_seq ?_ | (refine cj_region ?_; refine oj_run TT rfl ?_) | refine oj_then ?_))
  refine cj_if rfl (fun h => ?_) (fun h => ?_)
  rotate_left
  · have hk0 : k = xs.length := by have := of_decide_eq_false h; omega
    subst hk0
    rw [List.take_length]
    (repeat (first | refine cj_exit ?_ | refine nj_then_exit ?_ | refine nj_block_out ?_))
    refine nj_again (bo, bc) hbc Nat.zero_lt_one rfl (by (repeat (first | exact trivial | refine And.intro rfl ?_))) (by (repeat (first | exact trivial | refine And.intro rfl ?_))) rfl (by (repeat' (first | exact trivial | exact Nat.le_of_ble_eq_true rfl | constructor))) (by (repeat' (first | exact trivial | exact Nat.le_of_ble_eq_true rfl | refine AllLt.of ?_ | constructor)))
  have hkl : k < xs.length := by have := of_decide_eq_true h; omega
  have hra := lnRows_get (List.getElem?_eq_getElem hkl)
  have htk : xs.take (k + 1) = xs.take k ++ [xs[k]] := List.take_succ_eq_append_getElem hkl
  have hlk : (xs.take k).length = k := by rw [List.length_take]; omega
  generalize xs[k] = x at *
  have hlk1 : (xs.take (k + 1)).length = k + 1 := by rw [List.length_take]; omega
  have hE0 : lnE bo bc (xs.take k) = ⟨bo, k, bc, 85, 3, lnXs (xs.take k)⟩ := by unfold lnE; rw [hlk]
  rw [hlk, hE0]
  (repeat (first | refine cj_seq ?_ | refine cj_skip ?_ | refine cj_block ?_ | refine nj_then ?_))
  refine cj_draw [(0,.pure),(1,.quiet),(2,.pure),(3,.quiet),(4,.pure),(5,.pure),(6,.pure),(7,.quiet),(8,.pure),(9,.quiet),(10,.pure),(11,.pure),(12,.pure),(13,.quiet),(14,.pure),(15,.quiet),(16,.pure),(17,.pure),(18,.pure),(19,.quiet),(20,.pure),(21,.keep),(22,.sink),(23,.pure),(24,.sink)] mixed (by kernel_rfl) (oj_run TT rfl ?_)
  refine oj_idx TT rfl rfl rfl rfl rfl rfl rfl rfl rfl H (by omega) hra (oj_run TT rfl ?_)
  refine oj_idx TT rfl rfl rfl rfl rfl rfl rfl rfl rfl H (by omega) hra (oj_run TT rfl ?_)
  refine oj_idx TT rfl rfl rfl rfl rfl rfl rfl rfl rfl H (by omega) hra (oj_run TT rfl ?_)
  refine oj_append_lit TT 0 rfl rfl rfl rfl rfl rfl rfl rfl rfl rfl rfl rfl rfl rfl rfl rfl rfl rfl (by (repeat' (first | exact trivial | refine AllLt.of ?_ | constructor))) rfl (by omega) (by show (k + 1) * 40 ≤ _; omega) fun ao' cap' hcap' => oj_run TT rfl ?_
  (repeat (first | (refine cj_region ?_; refine oj_run TT rfl ?_) | refine oj_nil ?_ | refine nj_then ?_ | refine nj_block ?_ | (refine oj_add rfl rfl rfl rfl rfl rfl (by omega) ?_; refine oj_run TT rfl ?_)))
  refine nj_again (k + 1, (ao', cap')) ⟨hkl, hcap'⟩ (by dsimp only; omega) rfl (by (repeat (first | exact trivial | refine And.intro rfl ?_))) ?_ ?_ (by (repeat' (first | exact trivial | exact Nat.le_of_ble_eq_true rfl | constructor))) (by (repeat' (first | exact trivial | exact Nat.le_of_ble_eq_true rfl | refine AllLt.of ?_ | constructor)))
  · dsimp only
    rw [hlk1]
    (repeat (first | exact trivial | refine And.intro rfl ?_))
  · show [_] = [_]
    dsimp only
    unfold lnE
    rw [hlk1, htk, lnXs_append]
    rfl

def rowOf (x : GLine) : SRow := ⟨x.ao, x.cap, x.st⟩
theorem rowOf_ok {σ : Snap} {x : GLine} (h : LnOk σ x) : SrOk σ (rowOf x) := h

set_option maxRecDepth 100000 in
set_option maxHeartbeats 1000000 in
theorem Few13b_c (σ : Snap) (ps : List SRow) (hl : ps.length ≤ 140737488355328) (po : Option Addr) (pc : Nat) (P : SlAt σ po ps.length pc 1 (srRows ps)) (hp : ∀ p ∈ ps, SrOk σ p) (most : Int) :
    PlainS Tryd.prog 47 [.a (.v (.slice po ps.length pc)), .a (.v (.int .i64 most))] σ (fun v => ∃ b, v = .bool b ∧ (b = true → (ps.length : Int) ≤ most ∧ ∀ p ∈ ps, p.ss.length ≤ 20)) := by
  refine enter_p Tryd.func47 rfl rfl (by (repeat' (first | exact trivial | constructor))) fun w => ?_
  (repeat (first | refine cj_seq ?_ | (refine cj_region ?_; refine oj_run TT rfl ?_) | refine oj_then ?_))
  refine cj_if rfl (fun h => ?_) (fun h => ?_)
  · (repeat (first | refine cj_seq ?_ | (refine cj_region ?_; refine oj_run TT rfl ?_) | refine oj_then ?_ | refine cj_ret ?_ | refine nj_then_ret ?_))
    refine nj_ret TT rfl fun β w' _ _ => ?_
    exact ⟨false, rfl, fun h => by cases h⟩
  have hm : (ps.length : Int) ≤ most := by
    have := of_decide_eq_false h
    omega
  (repeat (first | refine cj_seq ?_ | (refine cj_region ?_; refine oj_run TT rfl ?_) | refine oj_then ?_ | refine cj_skip ?_ | refine cj_block ?_ | refine nj_then ?_))
  refine cj_loop (fun (_ : Nat) => σ) (fun k => [(0, .a (.v (.slice po ps.length pc))), (5, .a (.v (.int .i64 k)))]) (fun _ => []) (fun _ => []) 0
    (fun k => k ≤ ps.length ∧ ∀ p ∈ ps.take k, p.ss.length ≤ 20) (fun k => ps.length - k) 0 ⟨Nat.zero_le _, fun p h => by simp at h⟩ rfl (by (repeat (first | exact trivial | refine And.intro rfl ?_))) (by (repeat (first | exact trivial | refine And.intro rfl ?_))) rfl (by (repeat' (first | exact trivial | constructor))) (by (repeat' exact trivial)) fun k ⟨hk, hq⟩ => ?_
  (repeat (first | refine cj_seq ?_ | (refine cj_region ?_; refine oj_run TT rfl ?_) | refine oj_then ?_))
  refine cj_if rfl (fun h => ?_) (fun h => ?_)
  rotate_left
  · have hk0 : k = ps.length := by have := of_decide_eq_false h; omega
    rw [hk0, List.take_length] at hq
    (repeat (first | refine cj_seq ?_ | (refine cj_region ?_; refine oj_run TT rfl ?_) | refine oj_then ?_ | refine cj_exit ?_ | refine cj_ret ?_ | refine nj_then ?_ | refine nj_then_exit ?_ | refine nj_block_out ?_))
    refine nj_ret TT rfl fun β w' _ _ => ?_
    exact ⟨true, rfl, fun _ => ⟨hm, hq⟩⟩
  have hkl : k < ps.length := by have := of_decide_eq_true h; omega
  have hrow := srRows_get (List.getElem?_eq_getElem hkl)
  have hpo := hp ps[k] (List.getElem_mem hkl)
  have htk : ps.take (k + 1) = ps.take k ++ [ps[k]] := List.take_succ_eq_append_getElem hkl
  generalize ps[k] = p at *
  (repeat (first | refine cj_seq ?_ | (refine cj_region ?_; refine oj_run TT rfl ?_) | refine cj_skip ?_ | refine cj_block ?_ | refine nj_then ?_))
  refine oj_idx TT rfl rfl rfl rfl rfl rfl rfl rfl rfl P (by omega) hrow (oj_run TT rfl ?_)
  (repeat refine oj_then ?_)
  refine cj_if rfl (fun h => ?_) (fun h => ?_)
  · (repeat (first | refine cj_seq ?_ | (refine cj_region ?_; refine oj_run TT rfl ?_) | refine oj_then ?_ | refine cj_ret ?_ | refine nj_then_ret ?_ | refine nj_block_ret ?_))
    refine nj_ret TT rfl fun β w' _ _ => ?_
    exact ⟨false, rfl, fun h => by cases h⟩
  have hps : (p.ss.length : Int) ≤ 20 := by
    have := of_decide_eq_false h
    omega
  (repeat (first | refine cj_seq ?_ | (refine cj_region ?_; refine oj_run TT rfl ?_) | refine oj_then ?_ | refine cj_skip ?_ | refine cj_block ?_ | refine nj_then ?_))
  refine cj_loop (fun (_ : Nat) => σ) (fun j => [(0, .a (.v (.slice po ps.length pc))), (5, .a (.v (.int .i64 k))), (6, .a (.v (.int .i64 j)))]) (fun _ => []) (fun _ => []) 0
    (fun j => j ≤ p.ss.length) (fun j => p.ss.length - j) 0 (Nat.zero_le _) rfl (by (repeat (first | exact trivial | refine And.intro rfl ?_))) (by (repeat (first | exact trivial | refine And.intro rfl ?_))) rfl (by (repeat' (first | exact trivial | constructor))) (by (repeat' exact trivial)) fun j hj => ?_
  (repeat (first | refine cj_seq ?_ | (refine cj_region ?_; refine oj_run TT rfl ?_)))
  refine oj_idx TT rfl rfl rfl rfl rfl rfl rfl rfl rfl P (by omega) hrow (oj_run TT rfl ?_)
  (repeat refine oj_then ?_)
  refine cj_if rfl (fun h => ?_) (fun h => ?_)
  rotate_left
  · (repeat (first | (refine cj_region ?_; refine oj_run TT rfl ?_) | refine oj_nil ?_ | refine cj_exit ?_ | refine nj_then ?_ | refine nj_then_exit ?_ | refine nj_block ?_ | refine nj_block_out ?_ | (refine oj_add rfl rfl rfl rfl rfl rfl (by omega) ?_; refine oj_run TT rfl ?_)))
    refine nj_again (k + 1) ⟨hkl, fun q h => by
      rw [htk] at h
      rcases List.mem_append.1 h with h | h
      · exact hq q h
      · rw [List.mem_singleton.1 h]; omega⟩ (by omega) rfl (by (repeat (first | exact trivial | refine And.intro rfl ?_))) (by (repeat (first | exact trivial | refine And.intro rfl ?_))) rfl (by (repeat' (first | exact trivial | constructor))) (by (repeat' exact trivial))
  have hjl : j < p.ss.length := by have := of_decide_eq_true h; omega
  have hsr := strRows_get (List.getElem?_eq_getElem hjl)
  generalize p.ss[j] = s at *
  (repeat (first | refine cj_seq ?_ | (refine cj_region ?_; refine oj_run TT rfl ?_) | refine cj_skip ?_ | refine cj_block ?_ | refine nj_then ?_))
  refine oj_idx TT rfl rfl rfl rfl rfl rfl rfl rfl rfl P (by omega) hrow (oj_run TT rfl ?_)
  refine oj_idx TT rfl rfl rfl rfl rfl rfl rfl rfl rfl hpo.2 (by omega) hsr (oj_run TT rfl ?_)
  (repeat refine oj_then ?_)
  refine cj_if rfl (fun h => ?_) (fun h => ?_)
  · (repeat (first | refine cj_seq ?_ | (refine cj_region ?_; refine oj_run TT rfl ?_) | refine oj_then ?_ | refine cj_ret ?_ | refine nj_then_ret ?_ | refine nj_block_ret ?_))
    refine nj_ret TT rfl fun β w' _ _ => ?_
    exact ⟨false, rfl, fun h => by cases h⟩
  · (repeat (first | (refine cj_region ?_; refine oj_run TT rfl ?_) | refine oj_nil ?_ | refine cj_skip ?_ | refine nj_then ?_ | refine nj_block ?_ | (refine oj_add rfl rfl rfl rfl rfl rfl (by omega) ?_; refine oj_run TT rfl ?_)))
    refine nj_again (j + 1) hjl (by omega) rfl (by (repeat (first | exact trivial | refine And.intro rfl ?_))) (by (repeat (first | exact trivial | refine And.intro rfl ?_))) rfl (by (repeat' (first | exact trivial | constructor))) (by (repeat' exact trivial))

set_option maxRecDepth 100000 in
set_option maxHeartbeats 1000000 in
theorem FewLines_c (σ : Snap) (xs : List GLine) (hl : xs.length * 40 ≤ 140737488355328) (ao : Option Addr) (cap : Nat) (next : Int) (H : SlAt σ ao xs.length cap 3 (lnRows xs)) (hx : ∀ x ∈ xs, LnOk σ x) :
    PlainS Tryd.prog 57 [.agg [.v (.slice ao xs.length cap), .v (.int .i64 next)]] σ (fun v => ∃ b, v = .bool b ∧ (b = true → xs.length ≤ 60 ∧ ∀ x ∈ xs, x.st.length ≤ 20)) := by
  refine enter_p Tryd.func57 rfl rfl (by (repeat' (first | exact trivial | refine AllLt.of ?_ | constructor))) fun w => ?_
  (repeat (first | refine cj_seq ?_ | (refine cj_region ?_; refine oj_run TT rfl ?_) | refine oj_then ?_ | refine cj_block ?_))
  refine cj_nilarr 75 1 ?_
  skip
  refine cj_cutB (fun (_ : Option Addr × Nat) => σ) (fun s => [(3, .a (.v (.slice s.1 xs.length s.2)))]) (fun _ => [])
    (fun s => [srE s.1 s.2 (xs.map rowOf)]) 1 (fun s => xs.length ≤ s.2) ?_ (fun s hs => ?_)
  rotate_left
  · obtain ⟨bo, bc⟩ := s
    dsimp only at hs ⊢
    (repeat (first | refine cj_seq ?_ | (refine cj_region ?_; refine oj_run TT rfl ?_)))
    refine oj_seal 0 rfl rfl rfl fun σ1 hle1 hS => ?_
    have hlm : (xs.map rowOf).length = xs.length := List.length_map ..
    have P := sr_sealed hS (by rw [hlm]; exact hs)
    have hc := Few13b_c σ1 (xs.map rowOf) (by rw [hlm]; omega) bo bc P (fun p hp => by
      obtain ⟨x, hxm, rfl⟩ := List.mem_map.1 hp
      exact rowOf_ok ((hx x hxm).mono hle1)) 60
    rw [hlm] at hc
    refine oj_callP rfl rfl rfl rfl rfl Tryd.call47 (by (repeat' (first | exact trivial | constructor))) hc fun v ⟨fb, hv, hfew⟩ => ⟨.a (.b fb), trivial, hv.symm, ?_⟩
    refine oj_run TT rfl ?_
    (repeat (first | refine oj_then ?_ | refine cj_ret ?_))
    refine nj_ret TT rfl fun β w' _ _ => ?_
    exact ⟨fb, rfl, fun h => ⟨by have := (hfew h).1; omega, fun x hx => (hfew h).2 (rowOf x) (List.mem_map.2 ⟨x, hx, rfl⟩)⟩⟩
  refine cj_loop2 (fun _ (_ : Option Addr × Nat) => σ) (fun (k : Nat) s => [(1, .a (.p 0 0)), (3, .a (.v (.slice s.1 (xs.take k).length s.2))), (4, .a (.v (.int .i64 k)))])
    (fun k s => [(0, .loc 79, [.v (.slice ao xs.length cap), .v (.int .i64 next)])]) (fun k s => [srE s.1 s.2 ((xs.take k).map rowOf)]) 1
    (fun k s => k ≤ xs.length ∧ k ≤ s.2) (fun k _ => xs.length - k) 0 (none, 0) ⟨Nat.zero_le _, Nat.le_refl _⟩ rfl (by (repeat (first | exact trivial | refine And.intro rfl ?_))) (by (repeat (first | exact trivial | refine And.intro rfl ?_))) rfl (by (repeat' (first | exact trivial | exact Nat.le_of_ble_eq_true rfl | constructor))) (by (repeat' (first | exact trivial | exact Nat.le_of_ble_eq_true rfl | refine AllLt.of ?_ | constructor))) fun k ⟨bo, bc⟩ ⟨hk, hbc⟩ => ?_
  dsimp only at hbc ⊢
  (repeat (first | refine cj_seq ?_ | (refine cj_region ?_; refine oj_run TT rfl ?_) | refine oj_then ?_))
  refine cj_if rfl (fun h => ?_) (fun h => ?_)
  rotate_left
  · have hk0 : k = xs.length := by have := of_decide_eq_false h; omega
    subst hk0
    rw [List.take_length]
    (repeat (first | refine cj_exit ?_ | refine nj_then_exit ?_ | refine nj_block_out ?_))
    refine nj_again (bo, bc) hbc Nat.zero_lt_one rfl (by (repeat (first | exact trivial | refine And.intro rfl ?_))) (by (repeat (first | exact trivial | refine And.intro rfl ?_))) rfl (by (repeat' (first | exact trivial | constructor))) (by (repeat' exact trivial))
  have hkl : k < xs.length := by have := of_decide_eq_true h; omega
  have hra := lnRows_get (List.getElem?_eq_getElem hkl)
  have htk : (xs.take (k + 1)).map rowOf = (xs.take k).map rowOf ++ [rowOf xs[k]] := by rw [List.take_succ_eq_append_getElem hkl, List.map_append]; rfl
  have hlk : (xs.take k).length = k := by rw [List.length_take]; omega
  generalize xs[k] = x at *
  have hlk1 : (xs.take (k + 1)).length = k + 1 := by rw [List.length_take]; omega
  have hE0 : srE bo bc ((xs.take k).map rowOf) = ⟨bo, k, bc, 75, 1, srXs ((xs.take k).map rowOf)⟩ := by unfold srE; rw [List.length_map, hlk]
  rw [hlk, hE0]
  (repeat (first | refine cj_seq ?_ | (refine cj_region ?_; refine oj_run TT rfl ?_) | refine cj_skip ?_ | refine cj_block ?_ | refine nj_then ?_))
  refine oj_idx TT rfl rfl rfl rfl rfl rfl rfl rfl rfl H (by omega) hra (oj_run TT rfl ?_)
  refine oj_append_lit TT 0 rfl rfl rfl rfl rfl rfl rfl rfl rfl rfl rfl rfl rfl rfl rfl rfl rfl rfl (by (repeat' (first | exact trivial | refine AllLt.of ?_ | constructor))) rfl (by omega) (by show (k + 1) * 24 ≤ _; omega) fun ao' cap' hcap' => oj_run TT rfl ?_
  (repeat (first | (refine cj_region ?_; refine oj_run TT rfl ?_) | refine oj_nil ?_ | refine nj_then ?_ | refine nj_block ?_ | (refine oj_add rfl rfl rfl rfl rfl rfl (by omega) ?_; refine oj_run TT rfl ?_)))
  refine nj_again (k + 1, (ao', cap')) ⟨hkl, hcap'⟩ (by dsimp only; omega) rfl ?_ (by (repeat (first | exact trivial | refine And.intro rfl ?_))) ?_ (by (repeat' (first | exact trivial | exact Nat.le_of_ble_eq_true rfl | constructor))) (by (repeat' (first | exact trivial | exact Nat.le_of_ble_eq_true rfl | refine AllLt.of ?_ | constructor)))
  · dsimp only
    rw [hlk1]
    (repeat (first | exact trivial | refine And.intro rfl ?_))
  · show [_] = [_]
    dsimp only
    unfold srE
    rw [List.length_map, hlk1, htk, srXs_append]
    rfl

set_option maxRecDepth 100000 in
set_option maxHeartbeats 1000000 in
theorem find13_c (σ : Snap) (xs : List GLine) (hl : xs.length ≤ 140737488355328) (ao : Option Addr) (cap : Nat) (H : SlAt σ ao xs.length cap 3 (lnRows xs)) (hx : ∀ x ∈ xs, LnOk σ x)
    (s : List ByteArray) (so : Option Addr) (sc : Nat) (S : SlAt σ so s.length sc 1 (strRows s)) :
    PlainS Tryd.prog 100 [.a (.v (.slice ao xs.length cap)), .a (.v (.slice so s.length sc))] σ (fun v => v = .int .i64 (lineG xs s)) := by
  refine enter_p Tryd.func100 rfl rfl (by (repeat' (first | exact trivial | constructor))) fun w => ?_
  (repeat (first | refine cj_seq ?_ | (refine cj_region ?_; refine oj_run TT rfl ?_) | refine oj_then ?_ | refine cj_block ?_))
  refine cj_loop (fun (_ : Nat) => σ) (fun k => [(0, .a (.v (.slice ao xs.length cap))), (1, .a (.v (.slice so s.length sc))), (5, .a (.v (.int .i64 k)))]) (fun _ => []) (fun _ => []) 0
    (fun k => k ≤ xs.length ∧ findG (fun x => decide (x.st = s)) (xs.drop k) k = lineG xs s) (fun k => xs.length - k) 0 ⟨Nat.zero_le _, rfl⟩ rfl (by (repeat (first | exact trivial | refine And.intro rfl ?_))) (by (repeat (first | exact trivial | refine And.intro rfl ?_))) rfl (by (repeat' (first | exact trivial | constructor))) (by (repeat' exact trivial)) fun k ⟨hk, hp⟩ => ?_
  (repeat (first | refine cj_seq ?_ | (refine cj_region ?_; refine oj_run TT rfl ?_) | refine oj_then ?_))
  refine cj_if rfl (fun h => ?_) (fun h => ?_)
  rotate_left
  · have hk0 : k = xs.length := by have := of_decide_eq_false h; omega
    subst hk0
    rw [List.drop_length] at hp
    (repeat (first | refine cj_seq ?_ | (refine cj_region ?_; refine oj_run TT rfl ?_) | refine oj_then ?_ | refine cj_exit ?_ | refine cj_ret ?_ | refine nj_then ?_ | refine nj_then_exit ?_ | refine nj_block_out ?_))
    refine nj_ret TT rfl fun β w' _ _ => ?_
    rw [← hp]
    rfl
  have hkl : k < xs.length := by have := of_decide_eq_true h; omega
  have hra := lnRows_get (List.getElem?_eq_getElem hkl)
  have hxk := hx xs[k] (List.getElem_mem hkl)
  rw [List.drop_eq_getElem_cons hkl, findG] at hp
  generalize xs[k] = x at *
  (repeat (first | refine cj_seq ?_ | (refine cj_region ?_; refine oj_run TT rfl ?_) | refine cj_skip ?_ | refine cj_block ?_ | refine nj_then ?_))
  refine oj_idx TT rfl rfl rfl rfl rfl rfl rfl rfl rfl H (by omega) hra (oj_run TT rfl ?_)
  refine oj_callP rfl rfl rfl rfl rfl Tryd.call54 (by (repeat' (first | exact trivial | constructor))) (SameSteps13_c σ x.st s hxk.1 x.ao so x.cap sc hxk.2 S) fun v hv => ⟨.a (.b (decide (x.st = s))), trivial, hv.symm, ?_⟩
  refine oj_run TT rfl ?_
  (repeat refine oj_then ?_)
  refine cj_if rfl (fun h => ?_) (fun h => ?_)
  · rw [if_pos h] at hp
    (repeat (first | refine cj_seq ?_ | (refine cj_region ?_; refine oj_run TT rfl ?_) | refine oj_then ?_ | refine cj_ret ?_ | refine nj_then_ret ?_ | refine nj_block_ret ?_))
    refine nj_ret TT rfl fun β w' _ _ => ?_
    rw [← hp]
    rfl
  · rw [if_neg (by rw [h]; decide)] at hp
    (repeat (first | (refine cj_region ?_; refine oj_run TT rfl ?_) | refine oj_nil ?_ | refine cj_skip ?_ | refine nj_then ?_ | refine nj_block ?_ | (refine oj_add rfl rfl rfl rfl rfl rfl (by omega) ?_; refine oj_run TT rfl ?_)))
    refine nj_again (k + 1) ⟨hkl, hp⟩ (by omega) rfl (by (repeat (first | exact trivial | refine And.intro rfl ?_))) (by (repeat (first | exact trivial | refine And.intro rfl ?_))) rfl (by (repeat' (first | exact trivial | constructor))) (by (repeat' exact trivial))

/-- What is sound of the first k lines. -/
def SndK (xs : List GLine) (k : Nat) : Prop := ∀ (i : Nat) (x : GLine), i < k → xs[i]? = some x → lineG xs x.st = i ∧ ∀ y, 0 < i → xs[i - 1]? = some y → y.id < x.id

set_option maxRecDepth 100000 in
set_option maxHeartbeats 1000000 in
theorem Sound13_c (σ : Snap) (xs : List GLine) (hl : xs.length ≤ 140737488355328) (ao : Option Addr) (cap : Nat) (next : Int) (H : SlAt σ ao xs.length cap 3 (lnRows xs)) (hx : ∀ x ∈ xs, LnOk σ x) :
    PlainS Tryd.prog 58 [.agg [.v (.slice ao xs.length cap), .v (.int .i64 next)]] σ (fun v => ∃ b, v = .bool b ∧ (b = true → SndK xs xs.length)) := by
  refine enter_p Tryd.func58 rfl rfl (by (repeat' (first | exact trivial | refine AllLt.of ?_ | constructor))) fun w => ?_
  (repeat (first | refine cj_seq ?_ | (refine cj_region ?_; refine oj_run TT rfl ?_) | refine oj_then ?_ | refine cj_block ?_))
  refine cj_loop (fun (_ : Nat) => σ) (fun k => [(1, .a (.p 0 0)), (3, .a (.v (.int .i64 k)))]) (fun _ => [(0, .loc 79, [.v (.slice ao xs.length cap), .v (.int .i64 next)])]) (fun _ => []) 1
    (fun k => k ≤ xs.length ∧ SndK xs k) (fun k => xs.length - k) 0 ⟨Nat.zero_le _, fun i x h => by omega⟩ rfl (by (repeat (first | exact trivial | refine And.intro rfl ?_))) (by (repeat (first | exact trivial | refine And.intro rfl ?_))) rfl (by (repeat' (first | exact trivial | exact Nat.le_of_ble_eq_true rfl | constructor))) (by (repeat' (first | exact trivial | exact Nat.le_of_ble_eq_true rfl | refine AllLt.of ?_ | constructor))) fun k ⟨hk, hp⟩ => ?_
  (repeat (first | refine cj_seq ?_ | (refine cj_region ?_; refine oj_run TT rfl ?_) | refine oj_then ?_))
  refine cj_if rfl (fun h => ?_) (fun h => ?_)
  rotate_left
  · have hk0 : k = xs.length := by have := of_decide_eq_false h; omega
    subst hk0
    (repeat (first | refine cj_seq ?_ | (refine cj_region ?_; refine oj_run TT rfl ?_) | refine oj_then ?_ | refine cj_exit ?_ | refine cj_ret ?_ | refine nj_then ?_ | refine nj_then_exit ?_ | refine nj_block_out ?_))
    refine nj_ret TT rfl fun β w' _ _ => ?_
    exact ⟨true, rfl, fun _ => hp⟩
  have hkl : k < xs.length := by have := of_decide_eq_true h; omega
  have hra := lnRows_get (List.getElem?_eq_getElem hkl)
  have hxk := hx xs[k] (List.getElem_mem hkl)
  have hnext : lineG xs xs[k].st = k → (∀ y, 0 < k → xs[k - 1]? = some y → y.id < xs[k].id) → SndK xs (k + 1) := fun h1 h2 i x hi hxi => by
    by_cases hik : i = k
    · subst hik
      rw [List.getElem?_eq_getElem hkl] at hxi
      obtain rfl := Option.some.inj hxi
      exact ⟨h1, h2⟩
    · exact hp i x (by omega) hxi
  generalize xs[k] = x at *
  (repeat (first | refine cj_seq ?_ | (refine cj_region ?_; refine oj_run TT rfl ?_) | refine cj_skip ?_ | refine cj_block ?_ | refine nj_then ?_))
  refine oj_idx TT rfl rfl rfl rfl rfl rfl rfl rfl rfl H (by omega) hra (oj_run TT rfl ?_)
  (repeat (first | refine cj_seq ?_ | refine oj_then ?_))
  refine cj_draw [(0,.pure),(1,.quiet),(2,.pure),(3,.pure),(4,.pure),(5,.quiet),(6,.pure),(7,.quiet),(8,.pure),(9,.pure),(10,.pure),(11,.pure),(12,.quiet),(13,.pure),(14,.pure),(15,.pure),(16,.pure),(17,.pure),(18,.pure),(19,.pure),(20,.quiet),(21,.pure),(22,.pure),(23,.pure),(24,.pure),(25,.quiet),(26,.pure),(27,.quiet),(28,.pure),(29,.pure),(30,.pure),(31,.pure),(32,.pure),(33,.quiet),(34,.pure),(35,.quiet),(37,.pure),(36,.keep),(38,.pure),(39,.pure)] mixed (by kernel_rfl) (oj_run TT rfl ?_)
  refine oj_split 20 rfl (fun h1 => ?_) (fun h1 => ?_)
  · refine oj_run TT rfl ?_
    (repeat (first | refine cj_seq ?_ | (refine cj_region ?_; refine oj_run TT rfl ?_) | refine oj_then ?_ | refine cj_if_t rfl ?_ | refine cj_ret ?_ | refine nj_then_ret ?_ | refine nj_block_ret ?_))
    refine nj_ret TT rfl fun β w' _ _ => ?_
    exact ⟨false, rfl, fun h => by cases h⟩
  refine oj_run TT rfl ?_
  refine oj_split 27 rfl (fun h1 => ?_) (fun h1 => ?_)
  · refine oj_run TT rfl ?_
    (repeat (first | refine cj_seq ?_ | (refine cj_region ?_; refine oj_run TT rfl ?_) | refine oj_then ?_ | refine cj_if_t rfl ?_ | refine cj_ret ?_ | refine nj_then_ret ?_ | refine nj_block_ret ?_))
    refine nj_ret TT rfl fun β w' _ _ => ?_
    exact ⟨false, rfl, fun h => by cases h⟩
  refine oj_run TT rfl ?_
  refine oj_split 32 rfl (fun h1 => ?_) (fun h1 => ?_)
  · refine oj_run TT rfl ?_
    (repeat (first | refine cj_seq ?_ | (refine cj_region ?_; refine oj_run TT rfl ?_) | refine oj_then ?_ | refine cj_if_t rfl ?_ | refine cj_ret ?_ | refine nj_then_ret ?_ | refine nj_block_ret ?_))
    refine nj_ret TT rfl fun β w' _ _ => ?_
    exact ⟨false, rfl, fun h => by cases h⟩
  refine oj_run TT rfl ?_
  refine oj_split 35 rfl (fun h1 => ?_) (fun h1 => ?_)
  · have h1 : decide ((k : Int) > 0) = true := h1
    have hk0 : 0 < k := by have := of_decide_eq_true h1; omega
    have hkl1 : k - 1 < xs.length := by omega
    have hrb := lnRows_get (List.getElem?_eq_getElem hkl1)
    have hget : xs[k - 1]? = some xs[k - 1] := List.getElem?_eq_getElem hkl1
    generalize xs[k - 1] = y at *
    refine oj_run TT rfl ?_
    refine oj_minus rfl rfl rfl rfl rfl rfl (by omega) (oj_run TT rfl ?_)
    rw [show (k : Int) - 1 = ((k - 1 : Nat) : Int) by omega]
    refine oj_idx TT rfl rfl rfl rfl rfl rfl rfl rfl rfl H (by omega) hrb (oj_run TT rfl ?_)
    refine oj_split 48 rfl (fun h2 => ?_) (fun h2 => ?_)
    · refine oj_run TT rfl ?_
      (repeat (first | refine cj_seq ?_ | (refine cj_region ?_; refine oj_run TT rfl ?_) | refine oj_then ?_ | refine cj_if_t rfl ?_ | refine cj_ret ?_ | refine nj_then_ret ?_ | refine nj_block_ret ?_))
      refine nj_ret TT rfl fun β w' _ _ => ?_
      exact ⟨false, rfl, fun h => by cases h⟩
    have h2 : decide (y.id ≥ x.id) = false := h2
    have h2 := of_decide_eq_false h2
    refine oj_run TT rfl ?_
    refine oj_callP rfl rfl rfl rfl rfl Tryd.call100 (by (repeat' (first | exact trivial | constructor))) (find13_c σ xs hl ao cap H hx x.st x.ao x.cap hxk.2) fun v hv => ⟨.a (.v (.int .i64 (lineG xs x.st))), trivial, hv.symm, ?_⟩
    refine oj_run TT rfl ?_
    (repeat refine oj_then ?_)
    refine cj_if rfl (fun h => ?_) (fun h => ?_)
    · (repeat (first | refine cj_seq ?_ | (refine cj_region ?_; refine oj_run TT rfl ?_) | refine oj_then ?_ | refine cj_ret ?_ | refine nj_then_ret ?_ | refine nj_block_ret ?_))
      refine nj_ret TT rfl fun β w' _ _ => ?_
      exact ⟨false, rfl, fun h => by cases h⟩
    · have h : lineG xs x.st = k := by simpa using h
      (repeat (first | (refine cj_region ?_; refine oj_run TT rfl ?_) | refine oj_nil ?_ | refine cj_skip ?_ | refine nj_then ?_ | refine nj_block ?_ | (refine oj_add rfl rfl rfl rfl rfl rfl (by omega) ?_; refine oj_run TT rfl ?_)))
      refine nj_again (k + 1) ⟨hkl, hnext h fun z _ hz => by rw [hget] at hz; obtain rfl := Option.some.inj hz; omega⟩ (by omega) rfl (by (repeat (first | exact trivial | refine And.intro rfl ?_))) (by (repeat (first | exact trivial | refine And.intro rfl ?_))) rfl (by (repeat' (first | exact trivial | exact Nat.le_of_ble_eq_true rfl | constructor))) (by (repeat' (first | exact trivial | exact Nat.le_of_ble_eq_true rfl | refine AllLt.of ?_ | constructor)))
  · have h1 : decide ((k : Int) > 0) = false := h1
    have hk0 : k = 0 := by have := of_decide_eq_false h1; omega
    refine oj_run TT rfl ?_
    refine oj_callP rfl rfl rfl rfl rfl Tryd.call100 (by (repeat' (first | exact trivial | constructor))) (find13_c σ xs hl ao cap H hx x.st x.ao x.cap hxk.2) fun v hv => ⟨.a (.v (.int .i64 (lineG xs x.st))), trivial, hv.symm, ?_⟩
    refine oj_run TT rfl ?_
    (repeat refine oj_then ?_)
    refine cj_if rfl (fun h => ?_) (fun h => ?_)
    · (repeat (first | refine cj_seq ?_ | (refine cj_region ?_; refine oj_run TT rfl ?_) | refine oj_then ?_ | refine cj_ret ?_ | refine nj_then_ret ?_ | refine nj_block_ret ?_))
      refine nj_ret TT rfl fun β w' _ _ => ?_
      exact ⟨false, rfl, fun h => by cases h⟩
    · have h : lineG xs x.st = k := by simpa using h
      (repeat (first | (refine cj_region ?_; refine oj_run TT rfl ?_) | refine oj_nil ?_ | refine cj_skip ?_ | refine nj_then ?_ | refine nj_block ?_ | (refine oj_add rfl rfl rfl rfl rfl rfl (by omega) ?_; refine oj_run TT rfl ?_)))
      refine nj_again (k + 1) ⟨hkl, hnext h fun z hz => by omega⟩ (by omega) rfl (by (repeat (first | exact trivial | refine And.intro rfl ?_))) (by (repeat (first | exact trivial | refine And.intro rfl ?_))) rfl (by (repeat' (first | exact trivial | exact Nat.le_of_ble_eq_true rfl | constructor))) (by (repeat' (first | exact trivial | exact Nat.le_of_ble_eq_true rfl | refine AllLt.of ?_ | constructor)))
end Go.Sy
namespace Go.Sy
open Go.Proofs

/-! ### slices.Index -/

def idxF (v : Nat) : List Nat → Nat → Int
  | [], _ => -1
  | m :: ms, k => if v = m then k else idxF v ms (k + 1)

set_option maxRecDepth 100000 in
set_option maxHeartbeats 1000000 in
theorem Index_c (σ : Snap) (ks : List Nat) (hL : ks.length ≤ 100000) (oo : Option Addr) (oc : Nat) (HK : SlAt σ oo ks.length oc 1 (kidRows ks)) (v : Nat) :
    PlainS Tryd.prog 79 [.a (.v (.slice oo ks.length oc)), .a (.v (.int .i64 v))] σ (fun x => x = .int .i64 (idxF v ks 0)) := by
  refine enter_p Tryd.func79 rfl rfl (by (repeat' (first | exact trivial | constructor))) fun w => ?_
  (repeat (first | refine cj_seq ?_ | (refine cj_region ?_; refine oj_run TT rfl ?_) | refine oj_then ?_ | refine cj_block ?_))
  refine cj_loop (fun (_ : Nat) => σ) (fun k => [(0, .a (.v (.slice oo ks.length oc))), (1, .a (.v (.int .i64 v))), (7, .a (.v (.int .i64 ks.length))), (8, .a (.v (.int .i64 k)))]) (fun _ => []) (fun _ => []) 0
    (fun k => k ≤ ks.length ∧ idxF v (ks.drop k) k = idxF v ks 0) (fun k => ks.length - k) 0 ⟨Nat.zero_le _, rfl⟩ rfl (by (repeat (first | exact trivial | refine And.intro rfl ?_))) (by (repeat (first | exact trivial | refine And.intro rfl ?_))) rfl (by (repeat' (first | exact trivial | constructor))) (by (repeat' exact trivial)) fun k ⟨hk, hp⟩ => ?_
  (repeat (first | refine cj_seq ?_ | (refine cj_region ?_; refine oj_run TT rfl ?_) | refine oj_then ?_))
  refine cj_if rfl (fun h => ?_) (fun h => ?_)
  rotate_left
  · have hk0 : k = ks.length := by have := of_decide_eq_false h; omega
    subst hk0
    rw [List.drop_length] at hp
    (repeat (first | refine cj_seq ?_ | (refine cj_region ?_; refine oj_run TT rfl ?_) | refine oj_then ?_ | refine cj_exit ?_ | refine cj_ret ?_ | refine nj_then ?_ | refine nj_then_exit ?_ | refine nj_block_out ?_))
    refine nj_ret TT rfl fun β w' _ _ => ?_
    rw [← hp]
    rfl
  have hkl : k < ks.length := by have := of_decide_eq_true h; omega
  have hkr : (kidRows ks)[k]? = some [.v (.int .i64 (ks[k] : Nat))] := by unfold kidRows; rw [List.getElem?_map, List.getElem?_eq_getElem hkl]; rfl
  rw [List.drop_eq_getElem_cons hkl, idxF] at hp
  generalize ks[k] = m at *
  (repeat (first | refine cj_seq ?_ | (refine cj_region ?_; refine oj_run TT rfl ?_) | refine oj_then ?_ | refine cj_skip ?_ | refine cj_block ?_ | refine nj_then ?_))
  refine oj_idx TT rfl rfl rfl rfl rfl rfl rfl rfl rfl HK (by omega) hkr (oj_run TT rfl ?_)
  (repeat refine oj_then ?_)
  refine cj_if rfl (fun h => ?_) (fun h => ?_)
  · have h : (v : Int) = m := of_decide_eq_true h
    rw [if_pos (by omega)] at hp
    (repeat (first | refine cj_seq ?_ | (refine cj_region ?_; refine oj_run TT rfl ?_) | refine oj_then ?_ | refine cj_ret ?_ | refine nj_then_ret ?_ | refine nj_block_ret ?_))
    refine nj_ret TT rfl fun β w' _ _ => ?_
    rw [← hp]
    rfl
  · have h : ¬ (v : Int) = m := of_decide_eq_false h
    rw [if_neg (by omega)] at hp
    (repeat (first | (refine cj_region ?_; refine oj_run TT rfl ?_) | refine oj_nil ?_ | refine cj_skip ?_ | refine nj_then ?_ | refine nj_block ?_ | (refine oj_add rfl rfl rfl rfl rfl rfl (by omega) ?_; refine oj_run TT rfl ?_)))
    refine nj_again (k + 1) ⟨hkl, hp⟩ (by omega) rfl (by (repeat (first | exact trivial | refine And.intro rfl ?_))) (by (repeat (first | exact trivial | refine And.intro rfl ?_))) rfl (by (repeat' (first | exact trivial | constructor))) (by (repeat' exact trivial))

/-! ### SameSteps -/

structure GStep where
  key : ByteArray
  at_ : Int
  named : Bool
deriving DecidableEq

def stepCells (s : GStep) : List AT := [.v (.string s.key), .v (.int .i64 s.at_), .b s.named]
def stepRows (l : List GStep) : List (List AT) := l.map stepCells
theorem stepRows_get {l : List GStep} {i : Nat} {s : GStep} (h : l[i]? = some s) : (stepRows l)[i]? = some (stepCells s) := by unfold stepRows; rw [List.getElem?_map, h]; rfl

def stepEq (x y : GStep) : Bool := !(x.named != y.named) && !(x.named && !decide (x.key = y.key)) && !(!x.named && !decide (x.at_ = y.at_))
def sameG : List GStep → List GStep → Bool
  | [], [] => true
  | x :: a, y :: b => stepEq x y && sameG a b
  | _, _ => false

theorem sameG_len : ∀ {a b : List GStep}, a.length ≠ b.length → sameG a b = false
  | [], [], h => absurd rfl h
  | _ :: a, _ :: b, h => by rw [sameG, sameG_len (a := a) (b := b) (by simpa using h), Bool.and_false]
  | [], _ :: _, _ => rfl
  | _ :: _, [], _ => rfl

set_option maxRecDepth 100000 in
set_option maxHeartbeats 1000000 in
theorem SameSteps_c (σ : Snap) (a b : List GStep) (ha : a.length ≤ 100000) (_ : b.length ≤ 100000) (ao bo : Option Addr) (ac bc : Nat) (HA : SlAt σ ao a.length ac 3 (stepRows a)) (HB : SlAt σ bo b.length bc 3 (stepRows b)) :
    PlainS Tryd.prog 28 [.a (.v (.slice ao a.length ac)), .a (.v (.slice bo b.length bc))] σ (fun x => x = .bool (sameG a b)) := by
  refine enter_p Tryd.func28 rfl rfl (by (repeat' (first | exact trivial | constructor))) fun w => ?_
  (repeat (first | refine cj_seq ?_ | (refine cj_region ?_; refine oj_run TT rfl ?_) | refine oj_then ?_))
  refine cj_if rfl (fun h => ?_) (fun h => ?_)
  · have h : ¬ (a.length : Int) = b.length := by simpa using h
    rw [sameG_len (by omega)]
    (repeat (first | refine cj_seq ?_ | (refine cj_region ?_; refine oj_run TT rfl ?_) | refine oj_then ?_ | refine cj_ret ?_ | refine nj_then_ret ?_))
    refine nj_ret TT rfl fun β w' _ _ => ?_
    rfl
  have hlen : a.length = b.length := by
    have h : (a.length : Int) = b.length := by simpa using h
    omega
  (repeat (first | refine cj_seq ?_ | (refine cj_region ?_; refine oj_run TT rfl ?_) | refine oj_then ?_ | refine cj_skip ?_ | refine cj_block ?_ | refine nj_then ?_))
  refine cj_loop (fun (_ : Nat) => σ) (fun k => [(0, .a (.v (.slice ao a.length ac))), (1, .a (.v (.slice bo b.length bc))), (5, .a (.v (.int .i64 k)))]) (fun _ => []) (fun _ => []) 0
    (fun k => k ≤ a.length ∧ sameG (a.drop k) (b.drop k) = sameG a b) (fun k => a.length - k) 0 ⟨Nat.zero_le _, rfl⟩ rfl (by (repeat (first | exact trivial | refine And.intro rfl ?_))) (by (repeat (first | exact trivial | refine And.intro rfl ?_))) rfl (by (repeat' (first | exact trivial | constructor))) (by (repeat' exact trivial)) fun k ⟨hk, hp⟩ => ?_
  (repeat (first | refine cj_seq ?_ | (refine cj_region ?_; refine oj_run TT rfl ?_) | refine oj_then ?_))
  refine cj_if rfl (fun h => ?_) (fun h => ?_)
  rotate_left
  · have hk0 : k = a.length := by have := of_decide_eq_false h; omega
    subst hk0
    rw [List.drop_length, hlen, List.drop_length] at hp
    (repeat (first | refine cj_seq ?_ | (refine cj_region ?_; refine oj_run TT rfl ?_) | refine oj_then ?_ | refine cj_exit ?_ | refine cj_ret ?_ | refine nj_then ?_ | refine nj_then_exit ?_ | refine nj_block_out ?_))
    refine nj_ret TT rfl fun β w' _ _ => ?_
    rw [← hp]
    rfl
  have hkl : k < a.length := by have := of_decide_eq_true h; omega
  have hkl' : k < b.length := by omega
  have hra := stepRows_get (List.getElem?_eq_getElem hkl)
  have hrb := stepRows_get (List.getElem?_eq_getElem hkl')
  rw [List.drop_eq_getElem_cons hkl, List.drop_eq_getElem_cons hkl', sameG] at hp
  generalize a[k] = x at *
  generalize b[k] = y at *
  (repeat (first | refine cj_seq ?_ | refine cj_skip ?_ | refine cj_block ?_ | refine nj_then ?_))
  refine cj_draw [(0,.pure),(1,.pure),(2,.pure),(3,.pure),(4,.quiet),(5,.pure),(6,.pure),(7,.pure),(8,.pure),(9,.quiet),(10,.pure),(11,.pure),(12,.pure),(13,.pure),(14,.pure),(15,.pure),(16,.quiet),(17,.pure),(18,.pure),(19,.pure),(20,.pure),(21,.pure),(22,.quiet),(23,.pure),(24,.pure),(25,.pure),(26,.pure),(27,.quiet),(28,.pure),(29,.pure),(30,.pure),(31,.pure),(32,.pure),(33,.pure),(34,.pure),(35,.pure),(36,.quiet),(37,.pure),(38,.pure),(39,.pure),(40,.pure),(41,.pure),(42,.pure),(43,.quiet),(44,.pure),(45,.pure),(46,.pure),(47,.pure),(48,.quiet),(49,.pure),(50,.pure),(51,.pure)] mixed (by kernel_rfl) (oj_run TT rfl ?_)
  refine oj_idx TT rfl rfl rfl rfl rfl rfl rfl rfl rfl HA (by omega) hra (oj_run TT rfl ?_)
  refine oj_idx TT rfl rfl rfl rfl rfl rfl rfl rfl rfl HB (by omega) hrb (oj_run TT rfl ?_)
  skip
  refine oj_split 28 rfl (fun h => ?_) (fun h1 => ?_)
  · have h : (x.named != y.named) = true := h
    refine oj_run TT rfl ?_
    (repeat (first | refine cj_seq ?_ | (refine cj_region ?_; refine oj_run TT rfl ?_) | refine oj_then ?_ | refine cj_if_t rfl ?_ | refine cj_ret ?_ | refine nj_then_ret ?_ | refine nj_block_ret ?_))
    refine nj_ret TT rfl fun β w' _ _ => ?_
    rw [← hp]
    unfold stepEq
    rw [h]
    rfl
  have h1 : (x.named != y.named) = false := h1
  refine oj_run TT rfl ?_
  refine oj_idx TT rfl rfl rfl rfl rfl rfl rfl rfl rfl HA (by omega) hra (oj_run TT rfl ?_)
  skip
  refine oj_split 34 rfl (fun h2 => ?_) (fun h2 => ?_)
  · have h2 : x.named = true := h2
    refine oj_run TT rfl ?_
    refine oj_idx TT rfl rfl rfl rfl rfl rfl rfl rfl rfl HA (by omega) hra (oj_run TT rfl ?_)
    refine oj_idx TT rfl rfl rfl rfl rfl rfl rfl rfl rfl HB (by omega) hrb (oj_run TT rfl ?_)
    skip
    refine oj_split 48 rfl (fun h3 => ?_) (fun h3 => ?_)
    · have h3 : (!decide (x.key = y.key)) = true := h3
      refine oj_run TT rfl ?_
      (repeat (first | refine cj_seq ?_ | (refine cj_region ?_; refine oj_run TT rfl ?_) | refine oj_then ?_ | refine cj_if_t rfl ?_ | refine cj_ret ?_ | refine nj_then_ret ?_ | refine nj_block_ret ?_))
      refine nj_ret TT rfl fun β w' _ _ => ?_
      rw [← hp]
      unfold stepEq
      rw [h1, h2, h3]
      rfl
    have h3 : (!decide (x.key = y.key)) = false := h3
    have he : stepEq x y = true := by unfold stepEq; rw [h1, h2, h3]; rfl
    rw [he, Bool.true_and] at hp
    refine oj_run TT rfl ?_
    refine oj_idx TT rfl rfl rfl rfl rfl rfl rfl rfl rfl HA (by omega) hra (oj_run TT rfl ?_)
    skip
    refine oj_split 55 rfl (fun h4 => absurd (show (!x.named) = true from h4) (by rw [h2]; decide)) (fun _ => ?_)
    refine oj_run TT rfl ?_
    (repeat (first | (refine cj_region ?_; refine oj_run TT rfl ?_) | refine oj_then ?_ | refine oj_nil ?_ | refine cj_if_f rfl ?_ | refine cj_skip ?_ | refine nj_then ?_ | refine nj_block ?_ | (refine oj_add rfl rfl rfl rfl rfl rfl (by omega) ?_; refine oj_run TT rfl ?_)))
    refine nj_again (k + 1) ⟨hkl, hp⟩ (by omega) rfl (by (repeat (first | exact trivial | refine And.intro rfl ?_))) (by (repeat (first | exact trivial | refine And.intro rfl ?_))) rfl (by (repeat' (first | exact trivial | constructor))) (by (repeat' exact trivial))
  · have h2 : x.named = false := h2
    refine oj_run TT rfl ?_
    skip
    refine oj_idx TT rfl rfl rfl rfl rfl rfl rfl rfl rfl HA (by omega) hra (oj_run TT rfl ?_)
    skip
    refine oj_split 55 rfl (fun _ => ?_) (fun h4 => absurd (show (!x.named) = false from h4) (by rw [h2]; decide))
    refine oj_run TT rfl ?_
    refine oj_idx TT rfl rfl rfl rfl rfl rfl rfl rfl rfl HA (by omega) hra (oj_run TT rfl ?_)
    refine oj_idx TT rfl rfl rfl rfl rfl rfl rfl rfl rfl HB (by omega) hrb (oj_run TT rfl ?_)
    (repeat refine oj_then ?_)
    refine cj_if rfl (fun h3 => ?_) (fun h3 => ?_)
    · have h3 : (!decide (x.at_ = y.at_)) = true := h3
      (repeat (first | refine cj_seq ?_ | (refine cj_region ?_; refine oj_run TT rfl ?_) | refine oj_then ?_ | refine cj_ret ?_ | refine nj_then_ret ?_ | refine nj_block_ret ?_))
      refine nj_ret TT rfl fun β w' _ _ => ?_
      rw [← hp]
      unfold stepEq
      rw [h1, h2, h3]
      rfl
    · have h3 : (!decide (x.at_ = y.at_)) = false := h3
      have he : stepEq x y = true := by unfold stepEq; rw [h1, h2, h3]; rfl
      rw [he, Bool.true_and] at hp
      (repeat (first | (refine cj_region ?_; refine oj_run TT rfl ?_) | refine oj_nil ?_ | refine cj_skip ?_ | refine nj_then ?_ | refine nj_block ?_ | (refine oj_add rfl rfl rfl rfl rfl rfl (by omega) ?_; refine oj_run TT rfl ?_)))
      refine nj_again (k + 1) ⟨hkl, hp⟩ (by omega) rfl (by (repeat (first | exact trivial | refine And.intro rfl ?_))) (by (repeat (first | exact trivial | refine And.intro rfl ?_))) rfl (by (repeat' (first | exact trivial | constructor))) (by (repeat' exact trivial))
end Go.Sy
namespace Go.Sy
open Go.Proofs

/-! ### slices.Reverse -/

def stXs (l : List GStep) : List Value := (stepRows l).flatten.map AT.val
def spE (ao : Option Addr) (n cap : Nat) (l : List GStep) : AE := ⟨ao, n, cap, 129, 3, stXs l⟩

/-- What is half turned. -/
def revAt (l m : List GStep) (k : Nat) : Prop := m.length = l.length ∧ ∀ q, q < l.length → m[q]? = if q < k ∨ l.length - k ≤ q then l[l.length - 1 - q]? else l[q]?

theorem revAt_zero (l : List GStep) : revAt l l 0 := ⟨rfl, fun q hq => by rw [if_neg (by omega)]⟩
theorem revAt_end {l m : List GStep} {k : Nat} (h : revAt l m k) (hk : l.length ≤ 2 * k + 1) : m = l.reverse := by
  apply List.ext_getElem?
  intro q
  by_cases hq : q < l.length
  · rw [h.2 q hq, List.getElem?_reverse hq]
    split
    · rfl
    · rw [show l.length - 1 - q = q by omega]
  · rw [List.getElem?_eq_none (by rw [h.1]; omega), List.getElem?_eq_none (by rw [List.length_reverse]; omega)]
theorem revAt_step {l m : List GStep} {k : Nat} (h : revAt l m k) (hk : 2 * k + 1 < l.length) {x y : GStep} (hx : m[k]? = some x) (hy : m[l.length - 1 - k]? = some y) :
    revAt l ((m.set k y).set (l.length - 1 - k) x) (k + 1) := by
  refine ⟨by simp [h.1], fun q hq => ?_⟩
  have h1 := h.2 k (by omega)
  have h2 := h.2 (l.length - 1 - k) (by omega)
  rw [if_neg (by omega)] at h1 h2
  rw [List.getElem?_set, List.getElem?_set, List.length_set, h.1]
  by_cases e1 : l.length - 1 - k = q
  · rw [if_pos e1, if_pos (show l.length - 1 - k < l.length by omega), if_pos (by omega), ← hx, h1, show l.length - 1 - q = k by omega]
  · rw [if_neg e1]
    by_cases e2 : k = q
    · rw [if_pos e2, if_pos (show k < l.length by omega), if_pos (by omega), ← hy, h2, e2]
    · rw [if_neg e2, h.2 q hq]
      by_cases e3 : q < k ∨ l.length - k ≤ q
      · rw [if_pos e3, if_pos (by omega)]
      · rw [if_neg e3, if_neg (by omega)]

theorem stXs_cons (x : GStep) (l : List GStep) : stXs (x :: l) = (stepCells x).map AT.val ++ stXs l := by simp [stXs, stepRows]
theorem stXs_len : ∀ l : List GStep, (stXs l).length = l.length * 3
  | [] => rfl
  | x :: l => by rw [stXs_cons, List.length_append, stXs_len l, List.length_cons]; simp [stepCells]; omega
theorem stXs_get : ∀ {l : List GStep} {i : Nat} {x : GStep}, l[i]? = some x → ∀ (j : Nat) c, (stepCells x)[j]? = some c → (stXs l)[i * 3 + j]? = some c.val
  | y :: l, 0, x, h, j, c, hc => by
    simp only [List.getElem?_cons_zero, Option.some.injEq] at h
    subst h
    have hj : j < 3 := by have := (List.getElem?_eq_some_iff.1 hc).1; simpa [stepCells] using this
    rw [stXs_cons, Nat.zero_mul, Nat.zero_add, List.getElem?_append_left (by simpa [stepCells] using hj), List.getElem?_map, hc]
    rfl
  | y :: l, i + 1, x, h, j, c, hc => by
    rw [stXs_cons, List.getElem?_append_right (by simp [stepCells]; omega)]
    have : (i + 1) * 3 + j - (List.map AT.val (stepCells y)).length = i * 3 + j := by simp [stepCells]; omega
    rw [this]
    exact stXs_get (by simpa using h) j c hc
theorem stXs_set : ∀ {l : List GStep} {i : Nat} (x : GStep), i < l.length → (stXs l).take (i * 3) ++ (stepCells x).map AT.val ++ (stXs l).drop (i * 3 + (stepCells x).length) = stXs (l.set i x)
  | y :: l, 0, x, h => by
    rw [List.set_cons_zero, stXs_cons, stXs_cons, Nat.zero_mul, Nat.zero_add, List.take_zero, List.nil_append]
    congr 1
  | y :: l, i + 1, x, h => by
    have ih := stXs_set (l := l) (i := i) x (by simpa using h)
    rw [List.set_cons_succ, stXs_cons, stXs_cons, ← ih]
    have e1 : (i + 1) * 3 = (List.map AT.val (stepCells y)).length + i * 3 := by simp [stepCells]; omega
    rw [e1, Nat.add_assoc, List.take_length_add_append, List.drop_length_add_append]
    simp only [List.append_assoc]

set_option maxRecDepth 100000 in
set_option maxHeartbeats 1000000 in
theorem Reverse_c (σ : Snap) (l : List GStep) (hL : l.length ≤ 100000) (ao : Option Addr) (cap : Nat) :
    FnS Tryd.prog 80 [.a (.v (.slice ao l.length cap))] σ [spE ao l.length cap l] (fun v _ A' => v = .tuple #[] ∧ A' = [spE ao l.length cap l.reverse]) := by
  refine enter_f Tryd.func80 rfl rfl (by (repeat' (first | exact trivial | constructor))) fun w => ?_
  (repeat (first | refine cj_seq ?_ | (refine cj_region ?_; refine oj_run TT rfl ?_) | refine oj_then ?_ | refine cj_block ?_ | (refine oj_minus rfl rfl rfl rfl rfl rfl (by omega) ?_; refine oj_run TT rfl ?_)))
  refine cj_loop2 (fun _ _ => σ) (fun (k : Nat) (_ : List GStep) => [(0, .a (.v (.slice ao l.length cap))), (2, .a (.v (.int .i64 (k : Int)))), (3, .a (.v (.int .i64 ((l.length : Int) - 1 - k))))]) (fun _ _ => []) (fun _ m => [spE ao l.length cap m]) 0
    (fun k m => revAt l m k ∧ 2 * k ≤ l.length + 1) (fun k _ => l.length + 1 - k) 0 l ⟨revAt_zero l, by omega⟩ rfl ?_ (by (repeat (first | exact trivial | refine And.intro rfl ?_))) rfl (by (repeat' (first | exact trivial | constructor))) (by (repeat' exact trivial)) fun k m ⟨hm, hk⟩ => ?_
  · refine ⟨rfl, rfl, ?_, trivial⟩
    have e : (l.length : Int) - 1 - ((0 : Nat) : Int) = (l.length : Int) - 1 := by omega
    rw [e]
    rfl
  (repeat (first | refine cj_seq ?_ | (refine cj_region ?_; refine oj_run TT rfl ?_) | refine oj_then ?_))
  refine cj_if rfl (fun h => ?_) (fun h => ?_)
  rotate_left
  · have h := of_decide_eq_false h
    rw [revAt_end hm (by omega)]
    (repeat (first | refine cj_exit ?_ | refine nj_then_exit ?_ | refine nj_block_out ?_))
    refine nj_fend TT rfl fun β w' _ _ => ?_
    exact ⟨rfl, rfl⟩
  have h := of_decide_eq_true h
  have hkl : 2 * k + 1 < l.length := by omega
  have hml := hm.1
  have hgk : m[k]? = some m[k] := List.getElem?_eq_getElem (by omega)
  have hgj : m[l.length - 1 - k]? = some (m[l.length - 1 - k]'(by omega)) := List.getElem?_eq_getElem (by omega)
  generalize m[k] = x at *
  generalize m[l.length - 1 - k]'(by omega) = y at *
  have hstep := revAt_step hm hkl hgk hgj
  have ej : (l.length : Int) - 1 - k = (l.length - 1 - k : Nat) := by omega
  rw [ej]
  refine cj_arrAt 0 (E := spE ao l.length cap m) rfl (show 0 < l.length by omega) fun gb hgb => ?_
  have hgb : ao = some ⟨gb, 0, none⟩ := hgb
  subst hgb
  (repeat (first | refine cj_seq ?_ | refine cj_skip ?_ | refine cj_block ?_ | refine nj_then ?_))
  refine cj_draw [(0,.pure),(1,.pure),(2,.pure),(3,.pure),(4,.pure),(5,.pure),(6,.pure),(7,.quiet),(8,.pure),(9,.pure),(10,.pure),(11,.quiet),(12,.pure),(13,.sink),(14,.pure),(15,.sink)] mixed (by kernel_rfl) (oj_run TT rfl ?_)
  generalize hj : l.length - 1 - k = j at *
  have had : ∀ q : Nat, some (SV.a (AT.v (.pointer (some (Addr.add ⟨gb, 0, none⟩ ((q : Int).toNat * 3)))))) = some (SV.a (AT.v (.pointer (some ⟨gb, q * 3, none⟩)))) := fun q => by
    rw [Int.toNat_natCast, add0]
  have hlt : ∀ z : GStep, ∀ c ∈ stepCells z, c.lt 0 := fun z c hc => by simp [stepCells] at hc; rcases hc with rfl | rfl | rfl <;> trivial
  refine oj_indexAddr TT rfl rfl rfl rfl rfl rfl rfl rfl rfl ⟨by omega, by omega⟩ (oj_run TT rfl ?_)
  refine oj_ldAs 0 (off := j * 3) TT (stepCells y) rfl rfl rfl rfl rfl (had j) rfl rfl rfl rfl rfl (fun q c hc => stXs_get hgj q c hc) (hlt y) (oj_run TT rfl ?_)
  refine oj_indexAddr TT rfl rfl rfl rfl rfl rfl rfl rfl rfl ⟨by omega, by omega⟩ (oj_run TT rfl ?_)
  refine oj_ldAs 0 (off := k * 3) TT (stepCells x) rfl rfl rfl rfl rfl (had k) rfl rfl rfl rfl rfl (fun q c hc => stXs_get hgk q c hc) (hlt x) (oj_run TT rfl ?_)
  refine oj_indexAddr TT rfl rfl rfl rfl rfl rfl rfl rfl rfl ⟨by omega, by omega⟩ (oj_run TT rfl ?_)
  refine oj_stAs 0 (off := k * 3) (cs := stepCells y) (A' := [spE (some ⟨gb, 0, none⟩) l.length cap (m.set k y)]) TT rfl rfl rfl rfl (had k) rfl rfl rfl rfl rfl (by show k * 3 + 3 ≤ l.length * 3; omega) (hlt y) rfl ?_ (oj_run TT rfl ?_)
  · show [_] = [_]
    unfold spE
    rw [← stXs_set y (by omega)]
  refine oj_indexAddr TT rfl rfl rfl rfl rfl rfl rfl rfl rfl ⟨by omega, by omega⟩ (oj_run TT rfl ?_)
  refine oj_stAs 0 (off := j * 3) (cs := stepCells x) (A' := [spE (some ⟨gb, 0, none⟩) l.length cap ((m.set k y).set j x)]) TT rfl rfl rfl rfl (had j) rfl rfl rfl rfl rfl (by show j * 3 + 3 ≤ l.length * 3; omega) (hlt x) rfl ?_ (oj_run TT rfl ?_)
  · show [_] = [_]
    unfold spE
    rw [← stXs_set x (by rw [List.length_set]; omega)]
  (repeat (first | (refine cj_region ?_; refine oj_run TT rfl ?_) | refine oj_nil ?_ | refine nj_then ?_ | refine nj_block ?_ | (refine oj_add rfl rfl rfl rfl rfl rfl (by omega) ?_; refine oj_run TT rfl ?_) | (refine oj_minus rfl rfl rfl rfl rfl rfl (by omega) ?_; refine oj_run TT rfl ?_)))
  refine nj_again (k + 1, (m.set k y).set j x) ⟨hstep, by dsimp only; omega⟩ (by dsimp only; omega) rfl ?_ (by (repeat (first | exact trivial | refine And.intro rfl ?_))) rfl (by (repeat' (first | exact trivial | constructor))) (by (repeat' exact trivial))
  refine ⟨rfl, rfl, ?_, trivial⟩
  have e : (l.length : Int) - 1 - ((k + 1 : Nat) : Int) = (j : Int) - 1 := by omega
  dsimp only
  rw [e]
  rfl
end Go.Sy
namespace Go.Sy
open Go.Proofs

/-! ### Place -/

theorem parentK_lt (L : List GRec) (st : Int) : ∀ k : Nat, -1 ≤ parentK L st k ∧ parentK L st k < k
  | 0 => by simp [parentK]
  | k + 1 => by
    have := parentK_lt L st k
    simp only [parentK]
    split <;> omega
theorem parentG_lt (L : List GRec) (i : Nat) : -1 ≤ parentG L i ∧ parentG L i < i := parentK_lt L _ i

/-- The step at record i, under p. -/
def stepG (L : List GRec) (i p : Nat) : GStep :=
  match L[i]? with
  | some r => ⟨r.name, if r.nm then 0 else idxF i (kidsG L p) 0, r.nm⟩
  | none => ⟨emptyS, 0, false⟩
/-- The steps from record i up. -/
def upF (L : List GRec) : Nat → Nat → List GStep
  | 0, _ => []
  | n + 1, i => if parentG L i < 0 then [] else stepG L i (parentG L i).toNat :: upF L n (parentG L i).toNat
theorem upF_len (L : List GRec) : ∀ n k, (upF L n k).length ≤ n
  | 0, _ => Nat.le_refl _
  | n + 1, k => by
    have := upF_len L n (parentG L k).toNat
    unfold upF
    split
    · simp
    · rw [List.length_cons]; omega
def placeG (L : List GRec) (i : Nat) : List GStep := (upF L (i + 1) i).reverse

structure PlS where
  i : Nat
  o : List GStep
  oo : Option Addr
  oc : Nat

theorem sp_sealed {σ : Snap} {oo : Option Addr} {oc : Nat} {o : List GStep} (h : ArrSealed σ (spE oo o.length oc o)) (hc : o.length ≤ oc) : SlAt σ oo o.length oc 3 (stepRows o) :=
  h.sl (E := spE oo o.length oc o) rfl (fun r hr => by
    obtain ⟨k, _, rfl⟩ := List.mem_map.1 hr
    exact ⟨rfl, fun c hc => by simp [stepCells] at hc; rcases hc with rfl | rfl | rfl <;> trivial⟩) (by simp [stepRows]) rfl hc

set_option maxRecDepth 100000 in
set_option maxHeartbeats 1000000 in
theorem Place_c (σ : Snap) (L : List GRec) (R : RecsOk L) (ao : Option Addr) (cap : Nat) (H : SlAt σ ao L.length cap 11 (recRows L)) (i : Nat) (hi : i < L.length) (hs : soundG L = true) (hL : L.length ≤ 100000) :
    PureS Tryd.prog 27 [.a (.v (.slice ao L.length cap)), .a (.v (.int .i64 i))] σ (fun v σ' => ∃ oo oc, v = .slice oo (placeG L i).length oc ∧ SlAt σ' oo (placeG L i).length oc 3 (stepRows (placeG L i))) := by
  have hat : atG L i = true := by
    unfold atG
    rw [hs]
    simp
    omega
  refine enter_s Tryd.func27 rfl rfl (by (repeat' (first | exact trivial | constructor))) fun w => ?_
  (repeat (first | refine cj_seq ?_ | (refine cj_region ?_; refine oj_run TT rfl ?_) | refine oj_then ?_))
  refine oj_callP rfl rfl rfl rfl rfl Tryd.call76 (by (repeat' (first | exact trivial | constructor))) (at_c σ L R ao cap H i) fun v hv => ⟨.a .tt, trivial, by rw [hv, hat]; rfl, ?_⟩
  refine oj_run TT rfl ?_
  (repeat (first | refine cj_seq ?_ | (refine cj_region ?_; refine oj_run TT rfl ?_) | refine oj_then ?_ | refine cj_if_f rfl ?_ | refine cj_skip ?_ | refine nj_then ?_))
  refine oj_nilarr 129 3 ?_
  refine oj_callP rfl rfl rfl rfl rfl Tryd.call78 (by (repeat' (first | exact trivial | constructor))) (parent_c σ L R.len ao cap H i hi) fun v hv => ⟨.a (.v (.int .i64 (parentG L i))), trivial, hv.symm, ?_⟩
  refine oj_run TT rfl ?_
  (repeat (first | refine oj_then ?_ | refine cj_block ?_))
  refine cj_cutB (fun (p : Snap × Option Addr × Nat) => p.1) (fun p => [(5, .a (.v (.slice p.2.1 (upF L (i + 1) i).length p.2.2)))]) (fun _ => []) (fun p => [spE p.2.1 (upF L (i + 1) i).length p.2.2 (upF L (i + 1) i)]) 0 (fun p => (upF L (i + 1) i).length ≤ p.2.2) ?_ (fun p hp => ?_)
  · refine cj_loop2 (fun (s : Snap) (_ : Nat × PlS) => s) (fun _ t => [(0, .a (.v (.slice ao L.length cap))), (1, .a (.v (.int .i64 (t.2.i : Int)))), (5, .a (.v (.slice t.2.oo t.2.o.length t.2.oc))), (6, .a (.v (.int .i64 (parentG L t.2.i))))]) (fun _ _ => [])
      (fun _ t => [spE t.2.oo t.2.o.length t.2.oc t.2.o]) 0 (fun s t => σ.le s ∧ t.2.i ≤ i ∧ t.2.i < t.1 ∧ t.2.o ++ upF L t.1 t.2.i = upF L (i + 1) i ∧ t.2.o.length ≤ t.2.oc ∧ t.2.o.length + t.2.i ≤ i) (fun _ t => t.2.i) σ (i + 1, ⟨i, [], none, 0⟩)
      ⟨Snap.le_refl _, Nat.le_refl _, Nat.lt_succ_self _, rfl, Nat.le_refl _, by simp⟩ rfl (by (repeat (first | exact trivial | refine And.intro rfl ?_))) (by (repeat (first | exact trivial | refine And.intro rfl ?_))) rfl (by (repeat' (first | exact trivial | constructor))) (by (repeat' exact trivial)) fun s ⟨n, k, o, oo, oc⟩ ⟨hs, hk, hn, hp, hoc, hok⟩ => ?_
    dsimp only at hk hn hp hoc hok ⊢
    obtain ⟨n, rfl⟩ : ∃ m, n = m + 1 := ⟨n - 1, by omega⟩
    have hpl := parentG_lt L k
    have hkl : k < L.length := by omega
    have hrow := recRows_get (List.getElem?_eq_getElem hkl)
    have H := H.mono hs
    rw [upF] at hp
    (repeat (first | refine cj_seq ?_ | (refine cj_region ?_; refine oj_run TT rfl ?_) | refine oj_then ?_))
    refine cj_if rfl (fun h => ?_) (fun h => ?_)
    rotate_left
    · have h := of_decide_eq_false h
      rw [if_pos (by omega), List.append_nil] at hp
      subst hp
      (repeat (first | refine cj_exit ?_ | refine nj_then_exit ?_ | refine nj_block_out ?_))
      refine nj_again (s, oo, oc) hoc Nat.zero_lt_one rfl (by (repeat (first | exact trivial | refine And.intro rfl ?_))) (by (repeat (first | exact trivial | refine And.intro rfl ?_))) rfl (by (repeat' (first | exact trivial | constructor))) (by (repeat' exact trivial))
    have h := of_decide_eq_true h
    rw [if_neg (by omega)] at hp
    obtain ⟨q, hq⟩ : ∃ q : Nat, parentG L k = q := ⟨(parentG L k).toNat, by omega⟩
    rw [hq] at hp ⊢
    rw [Int.toNat_natCast] at hp
    have hql : q < L.length := by omega
    have hst : stepG L k q = ⟨L[k].name, if L[k].nm then 0 else idxF k (kidsG L q) 0, L[k].nm⟩ := by unfold stepG; rw [List.getElem?_eq_getElem hkl]
    generalize L[k] = x at *
    have hklen : (kidsG L q).length ≤ L.length := by
      unfold kidsG
      exact Nat.le_trans (kidsF_len L _ L.length (q + 1)) (Nat.sub_le _ _)
    (repeat (first | refine cj_seq ?_ | refine cj_skip ?_ | refine cj_block ?_ | refine nj_then ?_))
    refine cj_draw [(0,.pure),(1,.pure),(2,.pure),(3,.pure),(4,.quiet),(5,.pure),(6,.pure),(7,.pure),(8,.pure),(9,.quiet),(10,.pure),(11,.keep),(12,.sink)] mixed (by kernel_rfl) (oj_run TT rfl ?_)
    refine oj_idx TT rfl rfl rfl rfl rfl rfl rfl rfl rfl H (by omega) hrow (oj_run TT rfl ?_)
    refine oj_idx TT rfl rfl rfl rfl rfl rfl rfl rfl rfl H (by omega) hrow (oj_run TT rfl ?_)
    (repeat (first | refine cj_seq ?_ | (refine cj_region ?_; refine oj_run TT rfl ?_) | refine oj_then ?_))
    refine cj_cutN (fun (s' : Snap) => s') (fun _ => [(0, .a (.v (.slice ao L.length cap))), (1, .a (.v (.int .i64 (k : Int)))), (5, .a (.v (.slice oo o.length oc))), (6, .a (.v (.int .i64 (q : Int)))), (7, .a (.p 2 0))])
      (fun _ => [(2, .loc 129, stepCells (stepG L k q))]) (fun _ => [spE oo o.length oc o]) 3 (fun s' => s.le s') ?_ (fun s' hs' => ?_)
    · refine cj_if rfl (fun h => ?_) (fun h => ?_)
      · have h : x.nm = false := by simpa using h
        (repeat (refine cj_region ?_; refine oj_run TT rfl ?_))
        refine oj_callS rfl rfl rfl rfl rfl Tryd.call77 ⟨trivial, trivial, trivial⟩ (kids_c s L hL ao cap H q hql) fun v σ1 hle ⟨oo', oc', hv, HK⟩ => ⟨.a (.v (.slice oo' (kidsG L q).length oc')), trivial, hv.symm, ?_⟩
        refine oj_run TT rfl ?_
        skip
        refine oj_callP rfl rfl rfl rfl rfl Tryd.call79 (by (repeat' (first | exact trivial | constructor))) (Index_c σ1 (kidsG L q) (by omega) oo' oc' HK k) fun v hv => ⟨.a (.v (.int .i64 (idxF k (kidsG L q) 0))), trivial, hv.symm, ?_⟩
        refine oj_run TT rfl ?_
        (repeat refine oj_nil ?_)
        refine nj_again σ1 hle Nat.zero_lt_one rfl (by (repeat (first | exact trivial | refine And.intro rfl ?_))) (by rw [hst, h]; (repeat (first | exact trivial | refine And.intro rfl ?_))) rfl (by (repeat' (first | exact trivial | exact Nat.le_of_ble_eq_true rfl | constructor))) (by (repeat' (first | exact trivial | exact Nat.le_of_ble_eq_true rfl | refine AllLt.of ?_ | constructor)))
      · have h : x.nm = true := by simpa using h
        (repeat refine cj_skip ?_)
        refine nj_again s (Snap.le_refl s) Nat.zero_lt_one rfl (by (repeat (first | exact trivial | refine And.intro rfl ?_))) (by rw [hst, h]; (repeat (first | exact trivial | refine And.intro rfl ?_))) rfl (by (repeat' (first | exact trivial | exact Nat.le_of_ble_eq_true rfl | constructor))) (by (repeat' (first | exact trivial | exact Nat.le_of_ble_eq_true rfl | refine AllLt.of ?_ | constructor)))
    have H := H.mono hs'
    generalize stepG L k q = z at *
    clear hst
    (repeat (refine cj_region ?_; refine oj_run TT rfl ?_))
    refine oj_append_lit TT 0 rfl rfl rfl rfl rfl rfl rfl rfl rfl rfl rfl rfl rfl rfl rfl rfl rfl rfl (by (repeat' (first | exact trivial | refine AllLt.of ?_ | constructor))) rfl (by omega) (by show (o.length + 1) * 32 ≤ _; omega) fun ao' cap' hcap' => oj_run TT rfl ?_
    (repeat (first | (refine cj_region ?_; refine oj_run TT rfl ?_) | refine oj_nil ?_ | refine nj_then ?_ | refine nj_block ?_))
    refine oj_callP rfl rfl rfl rfl rfl Tryd.call78 (by (repeat' (first | exact trivial | constructor))) (parent_c s' L R.len ao cap H q hql) fun v hv => ⟨.a (.v (.int .i64 (parentG L q))), trivial, hv.symm, ?_⟩
    refine oj_run TT rfl ?_
    (repeat refine oj_nil ?_)
    refine nj_again (s', n, ⟨q, o ++ [z], ao', cap'⟩) ⟨Snap.le_trans hs hs', by dsimp only; omega, by dsimp only; omega, by dsimp only; rw [List.append_assoc]; exact hp, by dsimp only; rw [List.length_append]; exact hcap', by dsimp only; rw [List.length_append, List.length_singleton]; omega⟩ (by dsimp only; omega) rfl ?_ (by (repeat (first | exact trivial | refine And.intro rfl ?_))) ?_ (by (repeat' (first | exact trivial | constructor))) (by (repeat' exact trivial))
    · refine ⟨rfl, rfl, ?_, rfl, trivial⟩
      dsimp only
      rw [List.length_append]
      rfl
    · dsimp only
      rw [List.length_append]
      show [_] = [_]
      unfold spE stXs stepRows
      rw [List.map_append, List.flatten_append, List.map_append]
      rfl
  (repeat (first | refine cj_seq ?_ | (refine cj_region ?_; refine oj_run TT rfl ?_)))
  refine oj_callF [0] (A0 := [spE p.2.1 (upF L (i + 1) i).length p.2.2 (upF L (i + 1) i)]) (Ar := []) rfl rfl rfl rfl rfl rfl rfl Tryd.call80 (by (repeat' (first | exact trivial | constructor))) (Reverse_c p.1 (upF L (i + 1) i) (Nat.le_trans (upF_len L (i + 1) i) (by omega)) p.2.1 p.2.2) fun v σ2 A2 hle2 ⟨hv, hA⟩ => ⟨.tup [], (by (repeat' (first | exact trivial | refine SV.lt_tup ?_))), hv.symm, ?_⟩
  subst hA
  refine oj_run TT rfl ?_
  (repeat (first | refine cj_seq ?_ | (refine cj_region ?_; refine oj_run TT rfl ?_) | refine oj_then ?_ | refine cj_ret ?_))
  refine nj_seal 0 rfl rfl fun σ' hle' hS => ?_
  refine nj_ret TT rfl fun β w' _ _ => ?_
  have hl : (placeG L i).length = (upF L (i + 1) i).length := List.length_reverse
  rw [hl]
  refine ⟨p.2.1, p.2.2, rfl, ?_⟩
  have hS : ArrSealed σ' (spE p.2.1 (placeG L i).length p.2.2 (placeG L i)) := by rw [hl]; exact hS
  rw [← hl]
  exact sp_sealed hS (by rw [hl]; exact hp)
end Go.Sy
