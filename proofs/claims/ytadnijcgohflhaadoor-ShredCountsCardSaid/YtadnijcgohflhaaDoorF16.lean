import Derived.Test.YtadnijcgohflhaaDoorF15
namespace Go.Sy
open Go.Proofs

/-! ### Exact -/

mutual
/-- Are all fields the same, in one order? -/
def exactG : GVal → GVal → Bool
  | .mk k b n s l ks vs, g => decide (k = g.kind) && (b == g.b) && decide (n = g.n) && decide (s = g.s) && decide (l.length = g.l.length) && decide (ks.length = g.ks.length) && (exactL l g.l && exactM vs ks g.vs g.ks)
def exactL : List GVal → List GVal → Bool
  | [], _ => true
  | _ :: _, [] => false
  | x :: l, y :: m => exactG x y && exactL l m
def exactM : List GVal → List ByteArray → List GVal → List ByteArray → Bool
  | [], _, _, _ => true
  | x :: l, k :: ks, y :: m, h :: hs => decide (k = h) && exactG x y && exactM l ks m hs
  | _ :: _, _, _, _ => false
end

theorem exactG_eq (a b : GVal) : exactG a b = (decide (a.kind = b.kind) && (a.b == b.b) && decide (a.n = b.n) && decide (a.s = b.s) && decide (a.l.length = b.l.length) && decide (a.ks.length = b.ks.length) && (exactL a.l b.l && exactM a.vs a.ks b.vs b.ks)) := by
  cases a; rfl

mutual
theorem exactG_self : ∀ (g : GVal), g.wf → exactG g g = true
  | .mk k b n s l ks vs, h => by
    simp only [GVal.wf] at h
    simp only [exactG, GVal.kind, GVal.b, GVal.n, GVal.s, GVal.l, GVal.ks, GVal.vs, decide_true, beq_self_eq_true, Bool.and_self, exactL_self l h.2.1, exactM_self vs ks h.1.symm h.2.2]
theorem exactL_self : ∀ (l : List GVal), GVal.wfs l → exactL l l = true
  | [], _ => rfl
  | x :: l, h => by simp only [GVal.wfs] at h; simp only [exactL, exactG_self x h.1, exactL_self l h.2, Bool.and_self]
theorem exactM_self : ∀ (l : List GVal) (ks : List ByteArray), l.length = ks.length → GVal.wfs l → exactM l ks l ks = true
  | [], _, _, _ => rfl
  | x :: l, [], h, _ => by simp at h
  | x :: l, k :: ks, h, hw => by simp only [GVal.wfs] at hw; simp only [exactM, exactG_self x hw.1, exactM_self l ks (by simpa using h) hw.2, decide_true, Bool.and_self]
end

/-- Two decimals held against each other. -/
theorem oj_neDec {cf : Cf} {Q : Exit → Act → World → Prop} {σ : Snap} {env : Env} {hp : HP} {A : List AE} {nh : Nat} {it : Item} {rest : List Item} {d : Nat} {x y : Operand} {yt : TypeId} {ca cb : List AT} (a b : GDec) (hP : cf.P = Tryd.prog)
    (hop : it.o.op = .binOp .neq 23 x y yt) (hd : it.o.dst = some d) (hg : guardVal it.guard env = some true) (hN : Nat.blt d cf.N = true) (hx : evalO env x = some (.agg ca)) (hy : evalO env y = some (.agg cb)) (hca : ∀ β, ca.map (AT.den β) = (decCells a).map (AT.den β)) (hcb : ∀ β, cb.map (AT.den β) = (decCells b).map (AT.den β))
    (hk : OJ cf rest Q σ ((d, .a (.b (!decide (a = b)))) :: env) hp A nh) : OJ cf (it :: rest) Q σ env hp A nh := by
  refine oj_val (.a (.b (!decide (a = b)))) hd hg hN trivial (fun _ ac β ha w => ?_) hk
  have h1 : ac.eval x = .agg #[.bool a.neg, .string a.dg, .int .i64 a.ex] := (evalO_eval ha hx).trans (by simp only [SV.den, hca]; rfl)
  have h2 : ac.eval y = .agg #[.bool b.neg, .string b.dg, .int .i64 b.ex] := (evalO_eval ha hy).trans (by simp only [SV.den, hcb]; rfl)
  rw [hP]
  have hG : (eqGuard .neq 23 x y (.agg #[.bool a.neg, .string a.dg, .int .i64 a.ex]) (.agg #[.bool b.neg, .string b.dg, .int .i64 b.ex])).run Tryd.prog w = .ok () w := run_eqGuard_agg w _ _ _ _ _ _ (by kernel_rfl)
  have hE : (Op.equalIn 10000 23 (.agg #[.bool a.neg, .string a.dg, .int .i64 a.ex]) (.agg #[.bool b.neg, .string b.dg, .int .i64 b.ex])).run Tryd.prog w = .ok (decide (a = b)) w := eqDec_ok 9998 a b w
  have hB : (binOp .neq 23 (.agg #[.bool a.neg, .string a.dg, .int .i64 a.ex]) (.agg #[.bool b.neg, .string b.dg, .int .i64 b.ex])).run Tryd.prog w = .ok (.bool (!decide (a = b))) w := by
    rw [run_neq_struct, hE]
    rfl
  simp only [execOp, hop, h1, h2, Sem.run_bind, hG, hB, Result.andThen_ok, Sem.run_pure]
  rfl

set_option maxRecDepth 100000 in
set_option maxHeartbeats 4000000 in
theorem Exact_c (ga : GVal) : ∀ (σ : Snap) (gb : GVal) (ra rb : List AT), RepV σ ga ra → RepV σ gb rb → PlainS Tryd.prog 23 [.agg ra, .agg rb] σ (fun v => v = .bool (exactG ga gb)) := by
  induction ga using GVal.byWeight with | _ ga ih => ?_
  intro σ gb ra rb hra hrb
  obtain ⟨la, lc, lrows, ma, mc, vrows, rfl, V⟩ := hra.open
  obtain ⟨la', lc', lrows', ma', mc', vrows', rfl, V'⟩ := hrb.open
  have hE := exactG_eq ga gb
  have hll := V.ll
  have hkl := V.kl
  simp only [mostLen] at hll hkl
  have hkv := V.kv
  have hkv' := V'.kv
  generalize exactG ga gb = R at hE ⊢
  have off : ∀ {b : Bool}, R = b → b = false → R = false := fun h h' => h.trans h'
  refine enter_p Tryd.func23 rfl rfl (by (repeat' (first | exact trivial | exact Nat.le_of_ble_eq_true rfl | exact vCells_lt _ _ _ _ _ _ | exact decCells_lt _ _ | refine AllLt.of ?_ | refine SV.lt_tup ?_ | exact SV.lt_fn0 | exact AT.lt_fn0 | exact RepV.clo (by assumption) | constructor))) fun w => ?_
  (repeat (first | refine cj_seq ?_ | (refine cj_region ?_; refine oj_run TT rfl ?_) | refine oj_then ?_ | refine oj_nil ?_ | refine cj_if_t rfl ?_ | refine cj_if_f rfl ?_ | refine cj_skip ?_ | refine cj_block ?_ | refine cj_exit ?_ | refine cj_ret ?_ | refine nj_then ?_ | refine nj_then_exit ?_ | refine nj_then_ret ?_ | refine nj_block ?_ | refine nj_block_ret ?_ | refine nj_block_out ?_ | refine nj_block_on rfl ?_ | (refine oj_band rfl rfl rfl rfl rfl rfl ?_; refine oj_run TT rfl ?_) | (refine oj_bor rfl rfl rfl rfl rfl rfl ?_; refine oj_run TT rfl ?_) | (refine oj_bandnot rfl rfl rfl rfl rfl rfl ?_; refine oj_run TT rfl ?_) | (refine oj_conv TT _ rfl rfl rfl rfl rfl rfl rfl rfl rfl ?_; refine oj_run TT rfl ?_) | (refine oj_bshl rfl rfl rfl rfl rfl rfl (by decide) ?_; refine oj_run TT rfl ?_) | (refine oj_bshr rfl rfl rfl rfl rfl rfl (by decide) ?_; refine oj_run TT rfl ?_) | (refine oj_slnil TT rfl rfl rfl rfl rfl rfl rfl rfl ?_; refine oj_run TT rfl ?_) | (refine oj_add rfl rfl rfl rfl rfl rfl (by omega) ?_; refine oj_run TT rfl ?_) | (refine oj_minus rfl rfl rfl rfl rfl rfl (by omega) ?_; refine oj_run TT rfl ?_)))
  refine oj_split 12 rfl (fun h => ?_) (fun h => ?_)
  · rw [show decide (ga.kind = gb.kind) = false by simpa using h] at hE
    simp only [Bool.false_and] at hE
    refine oj_run TT rfl ?_
    (repeat (first | refine cj_seq ?_ | (refine cj_region ?_; refine oj_run TT rfl ?_) | refine oj_then ?_ | refine oj_nil ?_ | refine cj_if_t rfl ?_ | refine cj_if_f rfl ?_ | refine cj_skip ?_ | refine cj_block ?_ | refine cj_exit ?_ | refine cj_ret ?_ | refine nj_then ?_ | refine nj_then_exit ?_ | refine nj_then_ret ?_ | refine nj_block ?_ | refine nj_block_ret ?_ | refine nj_block_out ?_ | refine nj_block_on rfl ?_ | (refine oj_band rfl rfl rfl rfl rfl rfl ?_; refine oj_run TT rfl ?_) | (refine oj_bor rfl rfl rfl rfl rfl rfl ?_; refine oj_run TT rfl ?_) | (refine oj_bandnot rfl rfl rfl rfl rfl rfl ?_; refine oj_run TT rfl ?_) | (refine oj_conv TT _ rfl rfl rfl rfl rfl rfl rfl rfl rfl ?_; refine oj_run TT rfl ?_) | (refine oj_bshl rfl rfl rfl rfl rfl rfl (by decide) ?_; refine oj_run TT rfl ?_) | (refine oj_bshr rfl rfl rfl rfl rfl rfl (by decide) ?_; refine oj_run TT rfl ?_) | (refine oj_slnil TT rfl rfl rfl rfl rfl rfl rfl rfl ?_; refine oj_run TT rfl ?_) | (refine oj_add rfl rfl rfl rfl rfl rfl (by omega) ?_; refine oj_run TT rfl ?_) | (refine oj_minus rfl rfl rfl rfl rfl rfl (by omega) ?_; refine oj_run TT rfl ?_)))
    refine nj_ret TT rfl fun β w' _ _ => ?_
    rw [hE]; rfl
  rw [show decide (ga.kind = gb.kind) = true by simpa using h] at hE
  refine oj_run TT rfl ?_
  refine oj_split 19 rfl (fun h => ?_) (fun h => ?_)
  · rw [show (ga.b == gb.b) = false by simpa using h] at hE
    simp only [Bool.false_and, Bool.and_false] at hE
    refine oj_run TT rfl ?_
    (repeat (first | refine cj_seq ?_ | (refine cj_region ?_; refine oj_run TT rfl ?_) | refine oj_then ?_ | refine oj_nil ?_ | refine cj_if_t rfl ?_ | refine cj_if_f rfl ?_ | refine cj_skip ?_ | refine cj_block ?_ | refine cj_exit ?_ | refine cj_ret ?_ | refine nj_then ?_ | refine nj_then_exit ?_ | refine nj_then_ret ?_ | refine nj_block ?_ | refine nj_block_ret ?_ | refine nj_block_out ?_ | refine nj_block_on rfl ?_ | (refine oj_band rfl rfl rfl rfl rfl rfl ?_; refine oj_run TT rfl ?_) | (refine oj_bor rfl rfl rfl rfl rfl rfl ?_; refine oj_run TT rfl ?_) | (refine oj_bandnot rfl rfl rfl rfl rfl rfl ?_; refine oj_run TT rfl ?_) | (refine oj_conv TT _ rfl rfl rfl rfl rfl rfl rfl rfl rfl ?_; refine oj_run TT rfl ?_) | (refine oj_bshl rfl rfl rfl rfl rfl rfl (by decide) ?_; refine oj_run TT rfl ?_) | (refine oj_bshr rfl rfl rfl rfl rfl rfl (by decide) ?_; refine oj_run TT rfl ?_) | (refine oj_slnil TT rfl rfl rfl rfl rfl rfl rfl rfl ?_; refine oj_run TT rfl ?_) | (refine oj_add rfl rfl rfl rfl rfl rfl (by omega) ?_; refine oj_run TT rfl ?_) | (refine oj_minus rfl rfl rfl rfl rfl rfl (by omega) ?_; refine oj_run TT rfl ?_)))
    refine nj_ret TT rfl fun β w' _ _ => ?_
    rw [hE]; rfl
  rw [show (ga.b == gb.b) = true by simpa using h] at hE
  refine oj_run TT rfl ?_
  refine oj_neDec ga.n gb.n rfl rfl rfl rfl rfl rfl rfl (fun _ => rfl) (fun _ => rfl) (oj_run TT rfl ?_)
  refine oj_split 26 rfl (fun h => ?_) (fun h => ?_)
  · rw [show decide (ga.n = gb.n) = false by simpa using h] at hE
    simp only [Bool.false_and, Bool.and_false] at hE
    refine oj_run TT rfl ?_
    (repeat (first | refine cj_seq ?_ | (refine cj_region ?_; refine oj_run TT rfl ?_) | refine oj_then ?_ | refine oj_nil ?_ | refine cj_if_t rfl ?_ | refine cj_if_f rfl ?_ | refine cj_skip ?_ | refine cj_block ?_ | refine cj_exit ?_ | refine cj_ret ?_ | refine nj_then ?_ | refine nj_then_exit ?_ | refine nj_then_ret ?_ | refine nj_block ?_ | refine nj_block_ret ?_ | refine nj_block_out ?_ | refine nj_block_on rfl ?_ | (refine oj_band rfl rfl rfl rfl rfl rfl ?_; refine oj_run TT rfl ?_) | (refine oj_bor rfl rfl rfl rfl rfl rfl ?_; refine oj_run TT rfl ?_) | (refine oj_bandnot rfl rfl rfl rfl rfl rfl ?_; refine oj_run TT rfl ?_) | (refine oj_conv TT _ rfl rfl rfl rfl rfl rfl rfl rfl rfl ?_; refine oj_run TT rfl ?_) | (refine oj_bshl rfl rfl rfl rfl rfl rfl (by decide) ?_; refine oj_run TT rfl ?_) | (refine oj_bshr rfl rfl rfl rfl rfl rfl (by decide) ?_; refine oj_run TT rfl ?_) | (refine oj_slnil TT rfl rfl rfl rfl rfl rfl rfl rfl ?_; refine oj_run TT rfl ?_) | (refine oj_add rfl rfl rfl rfl rfl rfl (by omega) ?_; refine oj_run TT rfl ?_) | (refine oj_minus rfl rfl rfl rfl rfl rfl (by omega) ?_; refine oj_run TT rfl ?_)))
    refine nj_ret TT rfl fun β w' _ _ => ?_
    rw [hE]; rfl
  rw [show decide (ga.n = gb.n) = true by simpa using h] at hE
  refine oj_run TT rfl ?_
  refine oj_split 33 rfl (fun h => ?_) (fun h => ?_)
  · rw [show decide (ga.s = gb.s) = false by simpa using h] at hE
    simp only [Bool.false_and, Bool.and_false] at hE
    refine oj_run TT rfl ?_
    (repeat (first | refine cj_seq ?_ | (refine cj_region ?_; refine oj_run TT rfl ?_) | refine oj_then ?_ | refine oj_nil ?_ | refine cj_if_t rfl ?_ | refine cj_if_f rfl ?_ | refine cj_skip ?_ | refine cj_block ?_ | refine cj_exit ?_ | refine cj_ret ?_ | refine nj_then ?_ | refine nj_then_exit ?_ | refine nj_then_ret ?_ | refine nj_block ?_ | refine nj_block_ret ?_ | refine nj_block_out ?_ | refine nj_block_on rfl ?_ | (refine oj_band rfl rfl rfl rfl rfl rfl ?_; refine oj_run TT rfl ?_) | (refine oj_bor rfl rfl rfl rfl rfl rfl ?_; refine oj_run TT rfl ?_) | (refine oj_bandnot rfl rfl rfl rfl rfl rfl ?_; refine oj_run TT rfl ?_) | (refine oj_conv TT _ rfl rfl rfl rfl rfl rfl rfl rfl rfl ?_; refine oj_run TT rfl ?_) | (refine oj_bshl rfl rfl rfl rfl rfl rfl (by decide) ?_; refine oj_run TT rfl ?_) | (refine oj_bshr rfl rfl rfl rfl rfl rfl (by decide) ?_; refine oj_run TT rfl ?_) | (refine oj_slnil TT rfl rfl rfl rfl rfl rfl rfl rfl ?_; refine oj_run TT rfl ?_) | (refine oj_add rfl rfl rfl rfl rfl rfl (by omega) ?_; refine oj_run TT rfl ?_) | (refine oj_minus rfl rfl rfl rfl rfl rfl (by omega) ?_; refine oj_run TT rfl ?_)))
    refine nj_ret TT rfl fun β w' _ _ => ?_
    rw [hE]; rfl
  rw [show decide (ga.s = gb.s) = true by simpa using h] at hE
  refine oj_run TT rfl ?_
  refine oj_split 42 rfl (fun h => ?_) (fun h => ?_)
  · have : ga.l.length ≠ gb.l.length := by intro e; rw [e] at h; simp at h
    rw [show decide (ga.l.length = gb.l.length) = false by simpa using this] at hE
    simp only [Bool.false_and, Bool.and_false] at hE
    refine oj_run TT rfl ?_
    (repeat (first | refine cj_seq ?_ | (refine cj_region ?_; refine oj_run TT rfl ?_) | refine oj_then ?_ | refine oj_nil ?_ | refine cj_if_t rfl ?_ | refine cj_if_f rfl ?_ | refine cj_skip ?_ | refine cj_block ?_ | refine cj_exit ?_ | refine cj_ret ?_ | refine nj_then ?_ | refine nj_then_exit ?_ | refine nj_then_ret ?_ | refine nj_block ?_ | refine nj_block_ret ?_ | refine nj_block_out ?_ | refine nj_block_on rfl ?_ | (refine oj_band rfl rfl rfl rfl rfl rfl ?_; refine oj_run TT rfl ?_) | (refine oj_bor rfl rfl rfl rfl rfl rfl ?_; refine oj_run TT rfl ?_) | (refine oj_bandnot rfl rfl rfl rfl rfl rfl ?_; refine oj_run TT rfl ?_) | (refine oj_conv TT _ rfl rfl rfl rfl rfl rfl rfl rfl rfl ?_; refine oj_run TT rfl ?_) | (refine oj_bshl rfl rfl rfl rfl rfl rfl (by decide) ?_; refine oj_run TT rfl ?_) | (refine oj_bshr rfl rfl rfl rfl rfl rfl (by decide) ?_; refine oj_run TT rfl ?_) | (refine oj_slnil TT rfl rfl rfl rfl rfl rfl rfl rfl ?_; refine oj_run TT rfl ?_) | (refine oj_add rfl rfl rfl rfl rfl rfl (by omega) ?_; refine oj_run TT rfl ?_) | (refine oj_minus rfl rfl rfl rfl rfl rfl (by omega) ?_; refine oj_run TT rfl ?_)))
    refine nj_ret TT rfl fun β w' _ _ => ?_
    rw [hE]; rfl
  have hl : ga.l.length = gb.l.length := by have : ((ga.l.length : Int) = gb.l.length) := by simpa using h
                                            omega
  rw [show decide (ga.l.length = gb.l.length) = true by simpa using hl] at hE
  refine oj_run TT rfl ?_
  (repeat (first | refine cj_seq ?_ | (refine cj_region ?_; refine oj_run TT rfl ?_) | refine oj_then ?_ | refine oj_nil ?_ | refine cj_if_t rfl ?_ | refine cj_if_f rfl ?_ | refine cj_skip ?_ | refine cj_block ?_ | refine cj_exit ?_ | refine cj_ret ?_ | refine nj_then ?_ | refine nj_then_exit ?_ | refine nj_then_ret ?_ | refine nj_block ?_ | refine nj_block_ret ?_ | refine nj_block_out ?_ | refine nj_block_on rfl ?_ | (refine oj_band rfl rfl rfl rfl rfl rfl ?_; refine oj_run TT rfl ?_) | (refine oj_bor rfl rfl rfl rfl rfl rfl ?_; refine oj_run TT rfl ?_) | (refine oj_bandnot rfl rfl rfl rfl rfl rfl ?_; refine oj_run TT rfl ?_) | (refine oj_conv TT _ rfl rfl rfl rfl rfl rfl rfl rfl rfl ?_; refine oj_run TT rfl ?_) | (refine oj_bshl rfl rfl rfl rfl rfl rfl (by decide) ?_; refine oj_run TT rfl ?_) | (refine oj_bshr rfl rfl rfl rfl rfl rfl (by decide) ?_; refine oj_run TT rfl ?_) | (refine oj_slnil TT rfl rfl rfl rfl rfl rfl rfl rfl ?_; refine oj_run TT rfl ?_) | (refine oj_add rfl rfl rfl rfl rfl rfl (by omega) ?_; refine oj_run TT rfl ?_) | (refine oj_minus rfl rfl rfl rfl rfl rfl (by omega) ?_; refine oj_run TT rfl ?_)))
  refine cj_if rfl (fun h => ?_) (fun h => ?_)
  · have : ga.ks.length ≠ gb.ks.length := by intro e; rw [e] at h; simp at h
    rw [show decide (ga.ks.length = gb.ks.length) = false by simpa using this] at hE
    simp only [Bool.false_and, Bool.and_false] at hE
    (repeat (first | refine cj_seq ?_ | (refine cj_region ?_; refine oj_run TT rfl ?_) | refine oj_then ?_ | refine oj_nil ?_ | refine cj_if_t rfl ?_ | refine cj_if_f rfl ?_ | refine cj_skip ?_ | refine cj_block ?_ | refine cj_exit ?_ | refine cj_ret ?_ | refine nj_then ?_ | refine nj_then_exit ?_ | refine nj_then_ret ?_ | refine nj_block ?_ | refine nj_block_ret ?_ | refine nj_block_out ?_ | refine nj_block_on rfl ?_ | (refine oj_band rfl rfl rfl rfl rfl rfl ?_; refine oj_run TT rfl ?_) | (refine oj_bor rfl rfl rfl rfl rfl rfl ?_; refine oj_run TT rfl ?_) | (refine oj_bandnot rfl rfl rfl rfl rfl rfl ?_; refine oj_run TT rfl ?_) | (refine oj_conv TT _ rfl rfl rfl rfl rfl rfl rfl rfl rfl ?_; refine oj_run TT rfl ?_) | (refine oj_bshl rfl rfl rfl rfl rfl rfl (by decide) ?_; refine oj_run TT rfl ?_) | (refine oj_bshr rfl rfl rfl rfl rfl rfl (by decide) ?_; refine oj_run TT rfl ?_) | (refine oj_slnil TT rfl rfl rfl rfl rfl rfl rfl rfl ?_; refine oj_run TT rfl ?_) | (refine oj_add rfl rfl rfl rfl rfl rfl (by omega) ?_; refine oj_run TT rfl ?_) | (refine oj_minus rfl rfl rfl rfl rfl rfl (by omega) ?_; refine oj_run TT rfl ?_)))
    refine nj_ret TT rfl fun β w' _ _ => ?_
    rw [hE]; rfl
  have hk : ga.ks.length = gb.ks.length := by have : ((ga.ks.length : Int) = gb.ks.length) := by simpa using h
                                              omega
  rw [show decide (ga.ks.length = gb.ks.length) = true by simpa using hk] at hE
  simp only [Bool.and_self, Bool.true_and] at hE
  (repeat (first | refine cj_seq ?_ | (refine cj_region ?_; refine oj_run TT rfl ?_) | refine oj_then ?_ | refine oj_nil ?_ | refine cj_if_t rfl ?_ | refine cj_if_f rfl ?_ | refine cj_skip ?_ | refine cj_block ?_ | refine cj_exit ?_ | refine cj_ret ?_ | refine nj_then ?_ | refine nj_then_exit ?_ | refine nj_then_ret ?_ | refine nj_block ?_ | refine nj_block_ret ?_ | refine nj_block_out ?_ | refine nj_block_on rfl ?_ | (refine oj_band rfl rfl rfl rfl rfl rfl ?_; refine oj_run TT rfl ?_) | (refine oj_bor rfl rfl rfl rfl rfl rfl ?_; refine oj_run TT rfl ?_) | (refine oj_bandnot rfl rfl rfl rfl rfl rfl ?_; refine oj_run TT rfl ?_) | (refine oj_conv TT _ rfl rfl rfl rfl rfl rfl rfl rfl rfl ?_; refine oj_run TT rfl ?_) | (refine oj_bshl rfl rfl rfl rfl rfl rfl (by decide) ?_; refine oj_run TT rfl ?_) | (refine oj_bshr rfl rfl rfl rfl rfl rfl (by decide) ?_; refine oj_run TT rfl ?_) | (refine oj_slnil TT rfl rfl rfl rfl rfl rfl rfl rfl ?_; refine oj_run TT rfl ?_) | (refine oj_add rfl rfl rfl rfl rfl rfl (by omega) ?_; refine oj_run TT rfl ?_) | (refine oj_minus rfl rfl rfl rfl rfl rfl (by omega) ?_; refine oj_run TT rfl ?_)))
  refine cj_cutB (fun (_ : Nat) => σ) (fun _ => [(2, .a (.p 0 0)), (3, .a (.p 1 0))]) (fun _ => [(0, .loc 27, vCells ga la lc ma mc), (1, .loc 27, vCells gb la' lc' ma' mc')]) (fun _ => []) 2 (fun _ => R = exactM ga.vs ga.ks gb.vs gb.ks) ?_ (fun _ hE => ?_)
  · refine cj_loop (fun (_ : Nat) => σ) (fun k => [(2, .a (.p 0 0)), (3, .a (.p 1 0)), (5, .a (.v (.int .i64 k)))]) (fun _ => [(0, .loc 27, vCells ga la lc ma mc), (1, .loc 27, vCells gb la' lc' ma' mc')]) (fun _ => []) 2
      (fun k => k ≤ ga.l.length ∧ R = (exactL (ga.l.drop k) (gb.l.drop k) && exactM ga.vs ga.ks gb.vs gb.ks)) (fun k => ga.l.length - k) 0 ⟨Nat.zero_le _, hE⟩ rfl (by (repeat (first | exact trivial | refine And.intro rfl ?_))) (by (repeat (first | exact trivial | refine And.intro rfl ?_))) rfl (by (repeat' (first | exact trivial | exact Nat.le_of_ble_eq_true rfl | exact vCells_lt _ _ _ _ _ _ | exact decCells_lt _ _ | refine AllLt.of ?_ | refine SV.lt_tup ?_ | exact SV.lt_fn0 | exact AT.lt_fn0 | exact RepV.clo (by assumption) | constructor))) (by (repeat' (first | exact trivial | exact Nat.le_of_ble_eq_true rfl | exact vCells_lt _ _ _ _ _ _ | exact decCells_lt _ _ | refine AllLt.of ?_ | refine SV.lt_tup ?_ | exact SV.lt_fn0 | exact AT.lt_fn0 | exact RepV.clo (by assumption) | constructor))) fun k ⟨hk1, hE⟩ => ?_
    (repeat (first | refine cj_seq ?_ | (refine cj_region ?_; refine oj_run TT rfl ?_) | refine oj_then ?_ | refine oj_nil ?_ | refine cj_if_t rfl ?_ | refine cj_if_f rfl ?_ | refine cj_skip ?_ | refine cj_block ?_ | refine cj_exit ?_ | refine cj_ret ?_ | refine nj_then ?_ | refine nj_then_exit ?_ | refine nj_then_ret ?_ | refine nj_block ?_ | refine nj_block_ret ?_ | refine nj_block_out ?_ | refine nj_block_on rfl ?_ | (refine oj_band rfl rfl rfl rfl rfl rfl ?_; refine oj_run TT rfl ?_) | (refine oj_bor rfl rfl rfl rfl rfl rfl ?_; refine oj_run TT rfl ?_) | (refine oj_bandnot rfl rfl rfl rfl rfl rfl ?_; refine oj_run TT rfl ?_) | (refine oj_conv TT _ rfl rfl rfl rfl rfl rfl rfl rfl rfl ?_; refine oj_run TT rfl ?_) | (refine oj_bshl rfl rfl rfl rfl rfl rfl (by decide) ?_; refine oj_run TT rfl ?_) | (refine oj_bshr rfl rfl rfl rfl rfl rfl (by decide) ?_; refine oj_run TT rfl ?_) | (refine oj_slnil TT rfl rfl rfl rfl rfl rfl rfl rfl ?_; refine oj_run TT rfl ?_) | (refine oj_add rfl rfl rfl rfl rfl rfl (by omega) ?_; refine oj_run TT rfl ?_) | (refine oj_minus rfl rfl rfl rfl rfl rfl (by omega) ?_; refine oj_run TT rfl ?_)))
    refine cj_if rfl (fun h => ?_) (fun h => ?_)
    rotate_left
    · have hk0 : k = ga.l.length := by have := of_decide_eq_false h; omega
      subst hk0
      rw [List.drop_length, exactL, Bool.true_and] at hE
      (repeat (first | refine cj_seq ?_ | (refine cj_region ?_; refine oj_run TT rfl ?_) | refine oj_then ?_ | refine oj_nil ?_ | refine cj_if_t rfl ?_ | refine cj_if_f rfl ?_ | refine cj_skip ?_ | refine cj_block ?_ | refine cj_exit ?_ | refine cj_ret ?_ | refine nj_then ?_ | refine nj_then_exit ?_ | refine nj_then_ret ?_ | refine nj_block ?_ | refine nj_block_ret ?_ | refine nj_block_out ?_ | refine nj_block_on rfl ?_ | (refine oj_band rfl rfl rfl rfl rfl rfl ?_; refine oj_run TT rfl ?_) | (refine oj_bor rfl rfl rfl rfl rfl rfl ?_; refine oj_run TT rfl ?_) | (refine oj_bandnot rfl rfl rfl rfl rfl rfl ?_; refine oj_run TT rfl ?_) | (refine oj_conv TT _ rfl rfl rfl rfl rfl rfl rfl rfl rfl ?_; refine oj_run TT rfl ?_) | (refine oj_bshl rfl rfl rfl rfl rfl rfl (by decide) ?_; refine oj_run TT rfl ?_) | (refine oj_bshr rfl rfl rfl rfl rfl rfl (by decide) ?_; refine oj_run TT rfl ?_) | (refine oj_slnil TT rfl rfl rfl rfl rfl rfl rfl rfl ?_; refine oj_run TT rfl ?_) | (refine oj_add rfl rfl rfl rfl rfl rfl (by omega) ?_; refine oj_run TT rfl ?_) | (refine oj_minus rfl rfl rfl rfl rfl rfl (by omega) ?_; refine oj_run TT rfl ?_)))
      refine nj_again 0 hE Nat.zero_lt_one rfl (by (repeat (first | exact trivial | refine And.intro rfl ?_))) (by (repeat (first | exact trivial | refine And.intro rfl ?_))) rfl (by (repeat' (first | exact trivial | exact Nat.le_of_ble_eq_true rfl | exact vCells_lt _ _ _ _ _ _ | exact decCells_lt _ _ | refine AllLt.of ?_ | refine SV.lt_tup ?_ | exact SV.lt_fn0 | exact AT.lt_fn0 | exact RepV.clo (by assumption) | constructor))) (by (repeat' (first | exact trivial | exact Nat.le_of_ble_eq_true rfl | exact vCells_lt _ _ _ _ _ _ | exact decCells_lt _ _ | refine AllLt.of ?_ | refine SV.lt_tup ?_ | exact SV.lt_fn0 | exact AT.lt_fn0 | exact RepV.clo (by assumption) | constructor)))
    have hkl : k < ga.l.length := by have := of_decide_eq_true h; omega
    have hkl' : k < gb.l.length := by omega
    rw [List.drop_eq_getElem_cons hkl, List.drop_eq_getElem_cons hkl', exactL] at hE
    obtain ⟨r1, hr1, hp1⟩ := V.l.get (List.getElem?_eq_getElem hkl)
    obtain ⟨r2, hr2, hp2⟩ := V'.l.get (List.getElem?_eq_getElem hkl')
    have hih := ih _ (weight_l (List.getElem_mem hkl)) σ gb.l[k] r1 r2 hp1 hp2
    obtain ⟨xa, xb, xc, xd, xe, xf, rfl, X⟩ := hp1.open
    obtain ⟨ya, yb, yc, yd, ye, yf, rfl, Y⟩ := hp2.open
    (repeat (first | refine cj_seq ?_ | (refine cj_region ?_; refine oj_run TT rfl ?_) | refine oj_then ?_ | refine oj_nil ?_ | refine cj_if_t rfl ?_ | refine cj_if_f rfl ?_ | refine cj_skip ?_ | refine cj_block ?_ | refine cj_exit ?_ | refine cj_ret ?_ | refine nj_then ?_ | refine nj_then_exit ?_ | refine nj_then_ret ?_ | refine nj_block ?_ | refine nj_block_ret ?_ | refine nj_block_out ?_ | refine nj_block_on rfl ?_ | (refine oj_band rfl rfl rfl rfl rfl rfl ?_; refine oj_run TT rfl ?_) | (refine oj_bor rfl rfl rfl rfl rfl rfl ?_; refine oj_run TT rfl ?_) | (refine oj_bandnot rfl rfl rfl rfl rfl rfl ?_; refine oj_run TT rfl ?_) | (refine oj_conv TT _ rfl rfl rfl rfl rfl rfl rfl rfl rfl ?_; refine oj_run TT rfl ?_) | (refine oj_bshl rfl rfl rfl rfl rfl rfl (by decide) ?_; refine oj_run TT rfl ?_) | (refine oj_bshr rfl rfl rfl rfl rfl rfl (by decide) ?_; refine oj_run TT rfl ?_) | (refine oj_slnil TT rfl rfl rfl rfl rfl rfl rfl rfl ?_; refine oj_run TT rfl ?_) | (refine oj_add rfl rfl rfl rfl rfl rfl (by omega) ?_; refine oj_run TT rfl ?_) | (refine oj_minus rfl rfl rfl rfl rfl rfl (by omega) ?_; refine oj_run TT rfl ?_)))
    refine cj_draw [(0,.pure),(1,.quiet),(2,.pure),(3,.pure),(4,.quiet),(5,.pure),(6,.quiet),(7,.pure),(8,.pure),(9,.quiet),(10,.keep),(11,.pure)] mixed (by kernel_rfl) (oj_run TT rfl ?_)
    refine oj_idx TT rfl rfl rfl rfl rfl rfl rfl rfl rfl V.L (by omega) hr1 (oj_run TT rfl ?_)
    refine oj_idx TT rfl rfl rfl rfl rfl rfl rfl rfl rfl V'.L (by omega) hr2 (oj_run TT rfl ?_)
    refine oj_callP rfl rfl rfl rfl rfl Tryd.call23 (by (repeat' (first | exact trivial | exact Nat.le_of_ble_eq_true rfl | exact vCells_lt _ _ _ _ _ _ | exact decCells_lt _ _ | refine AllLt.of ?_ | refine SV.lt_tup ?_ | exact SV.lt_fn0 | exact AT.lt_fn0 | exact RepV.clo (by assumption) | constructor))) hih fun v hv => ⟨.a (.b (exactG ga.l[k] gb.l[k])), trivial, hv.symm, ?_⟩
    refine oj_run TT rfl ?_
    (repeat (first | refine cj_seq ?_ | (refine cj_region ?_; refine oj_run TT rfl ?_) | refine oj_then ?_ | refine oj_nil ?_ | refine cj_if_t rfl ?_ | refine cj_if_f rfl ?_ | refine cj_skip ?_ | refine cj_block ?_ | refine cj_exit ?_ | refine cj_ret ?_ | refine nj_then ?_ | refine nj_then_exit ?_ | refine nj_then_ret ?_ | refine nj_block ?_ | refine nj_block_ret ?_ | refine nj_block_out ?_ | refine nj_block_on rfl ?_ | (refine oj_band rfl rfl rfl rfl rfl rfl ?_; refine oj_run TT rfl ?_) | (refine oj_bor rfl rfl rfl rfl rfl rfl ?_; refine oj_run TT rfl ?_) | (refine oj_bandnot rfl rfl rfl rfl rfl rfl ?_; refine oj_run TT rfl ?_) | (refine oj_conv TT _ rfl rfl rfl rfl rfl rfl rfl rfl rfl ?_; refine oj_run TT rfl ?_) | (refine oj_bshl rfl rfl rfl rfl rfl rfl (by decide) ?_; refine oj_run TT rfl ?_) | (refine oj_bshr rfl rfl rfl rfl rfl rfl (by decide) ?_; refine oj_run TT rfl ?_) | (refine oj_slnil TT rfl rfl rfl rfl rfl rfl rfl rfl ?_; refine oj_run TT rfl ?_) | (refine oj_add rfl rfl rfl rfl rfl rfl (by omega) ?_; refine oj_run TT rfl ?_) | (refine oj_minus rfl rfl rfl rfl rfl rfl (by omega) ?_; refine oj_run TT rfl ?_)))
    refine cj_if rfl (fun h => ?_) (fun h => ?_)
    · rw [show exactG ga.l[k] gb.l[k] = false by simpa using h] at hE
      (repeat (first | refine cj_seq ?_ | (refine cj_region ?_; refine oj_run TT rfl ?_) | refine oj_then ?_ | refine oj_nil ?_ | refine cj_if_t rfl ?_ | refine cj_if_f rfl ?_ | refine cj_skip ?_ | refine cj_block ?_ | refine cj_exit ?_ | refine cj_ret ?_ | refine nj_then ?_ | refine nj_then_exit ?_ | refine nj_then_ret ?_ | refine nj_block ?_ | refine nj_block_ret ?_ | refine nj_block_out ?_ | refine nj_block_on rfl ?_ | (refine oj_band rfl rfl rfl rfl rfl rfl ?_; refine oj_run TT rfl ?_) | (refine oj_bor rfl rfl rfl rfl rfl rfl ?_; refine oj_run TT rfl ?_) | (refine oj_bandnot rfl rfl rfl rfl rfl rfl ?_; refine oj_run TT rfl ?_) | (refine oj_conv TT _ rfl rfl rfl rfl rfl rfl rfl rfl rfl ?_; refine oj_run TT rfl ?_) | (refine oj_bshl rfl rfl rfl rfl rfl rfl (by decide) ?_; refine oj_run TT rfl ?_) | (refine oj_bshr rfl rfl rfl rfl rfl rfl (by decide) ?_; refine oj_run TT rfl ?_) | (refine oj_slnil TT rfl rfl rfl rfl rfl rfl rfl rfl ?_; refine oj_run TT rfl ?_) | (refine oj_add rfl rfl rfl rfl rfl rfl (by omega) ?_; refine oj_run TT rfl ?_) | (refine oj_minus rfl rfl rfl rfl rfl rfl (by omega) ?_; refine oj_run TT rfl ?_)))
      refine nj_ret TT rfl fun β w' _ _ => ?_
      rw [hE]; rfl
    · rw [show exactG ga.l[k] gb.l[k] = true by simpa using h, Bool.true_and] at hE
      (repeat (first | refine cj_seq ?_ | (refine cj_region ?_; refine oj_run TT rfl ?_) | refine oj_then ?_ | refine oj_nil ?_ | refine cj_if_t rfl ?_ | refine cj_if_f rfl ?_ | refine cj_skip ?_ | refine cj_block ?_ | refine cj_exit ?_ | refine cj_ret ?_ | refine nj_then ?_ | refine nj_then_exit ?_ | refine nj_then_ret ?_ | refine nj_block ?_ | refine nj_block_ret ?_ | refine nj_block_out ?_ | refine nj_block_on rfl ?_ | (refine oj_band rfl rfl rfl rfl rfl rfl ?_; refine oj_run TT rfl ?_) | (refine oj_bor rfl rfl rfl rfl rfl rfl ?_; refine oj_run TT rfl ?_) | (refine oj_bandnot rfl rfl rfl rfl rfl rfl ?_; refine oj_run TT rfl ?_) | (refine oj_conv TT _ rfl rfl rfl rfl rfl rfl rfl rfl rfl ?_; refine oj_run TT rfl ?_) | (refine oj_bshl rfl rfl rfl rfl rfl rfl (by decide) ?_; refine oj_run TT rfl ?_) | (refine oj_bshr rfl rfl rfl rfl rfl rfl (by decide) ?_; refine oj_run TT rfl ?_) | (refine oj_slnil TT rfl rfl rfl rfl rfl rfl rfl rfl ?_; refine oj_run TT rfl ?_) | (refine oj_add rfl rfl rfl rfl rfl rfl (by omega) ?_; refine oj_run TT rfl ?_) | (refine oj_minus rfl rfl rfl rfl rfl rfl (by omega) ?_; refine oj_run TT rfl ?_)))
      refine nj_again (k + 1) ⟨hkl, hE⟩ (by omega) rfl (by (repeat (first | exact trivial | refine And.intro rfl ?_))) (by (repeat (first | exact trivial | refine And.intro rfl ?_))) rfl (by (repeat' (first | exact trivial | exact Nat.le_of_ble_eq_true rfl | exact vCells_lt _ _ _ _ _ _ | exact decCells_lt _ _ | refine AllLt.of ?_ | refine SV.lt_tup ?_ | exact SV.lt_fn0 | exact AT.lt_fn0 | exact RepV.clo (by assumption) | constructor))) (by (repeat' (first | exact trivial | exact Nat.le_of_ble_eq_true rfl | exact vCells_lt _ _ _ _ _ _ | exact decCells_lt _ _ | refine AllLt.of ?_ | refine SV.lt_tup ?_ | exact SV.lt_fn0 | exact AT.lt_fn0 | exact RepV.clo (by assumption) | constructor)))
  (repeat (first | refine cj_seq ?_ | (refine cj_region ?_; refine oj_run TT rfl ?_) | refine oj_then ?_ | refine oj_nil ?_ | refine cj_if_t rfl ?_ | refine cj_if_f rfl ?_ | refine cj_skip ?_ | refine cj_block ?_ | refine cj_exit ?_ | refine cj_ret ?_ | refine nj_then ?_ | refine nj_then_exit ?_ | refine nj_then_ret ?_ | refine nj_block ?_ | refine nj_block_ret ?_ | refine nj_block_out ?_ | refine nj_block_on rfl ?_ | (refine oj_band rfl rfl rfl rfl rfl rfl ?_; refine oj_run TT rfl ?_) | (refine oj_bor rfl rfl rfl rfl rfl rfl ?_; refine oj_run TT rfl ?_) | (refine oj_bandnot rfl rfl rfl rfl rfl rfl ?_; refine oj_run TT rfl ?_) | (refine oj_conv TT _ rfl rfl rfl rfl rfl rfl rfl rfl rfl ?_; refine oj_run TT rfl ?_) | (refine oj_bshl rfl rfl rfl rfl rfl rfl (by decide) ?_; refine oj_run TT rfl ?_) | (refine oj_bshr rfl rfl rfl rfl rfl rfl (by decide) ?_; refine oj_run TT rfl ?_) | (refine oj_slnil TT rfl rfl rfl rfl rfl rfl rfl rfl ?_; refine oj_run TT rfl ?_) | (refine oj_add rfl rfl rfl rfl rfl rfl (by omega) ?_; refine oj_run TT rfl ?_) | (refine oj_minus rfl rfl rfl rfl rfl rfl (by omega) ?_; refine oj_run TT rfl ?_)))
  refine cj_loop (fun (_ : Nat) => σ) (fun k => [(2, .a (.p 0 0)), (3, .a (.p 1 0)), (6, .a (.v (.int .i64 k)))]) (fun _ => [(0, .loc 27, vCells ga la lc ma mc), (1, .loc 27, vCells gb la' lc' ma' mc')]) (fun _ => []) 2
    (fun k => k ≤ ga.ks.length ∧ R = exactM (ga.vs.drop k) (ga.ks.drop k) (gb.vs.drop k) (gb.ks.drop k)) (fun k => ga.ks.length - k) 0 ⟨Nat.zero_le _, hE⟩ rfl (by (repeat (first | exact trivial | refine And.intro rfl ?_))) (by (repeat (first | exact trivial | refine And.intro rfl ?_))) rfl (by (repeat' (first | exact trivial | exact Nat.le_of_ble_eq_true rfl | exact vCells_lt _ _ _ _ _ _ | exact decCells_lt _ _ | refine AllLt.of ?_ | refine SV.lt_tup ?_ | exact SV.lt_fn0 | exact AT.lt_fn0 | exact RepV.clo (by assumption) | constructor))) (by (repeat' (first | exact trivial | exact Nat.le_of_ble_eq_true rfl | exact vCells_lt _ _ _ _ _ _ | exact decCells_lt _ _ | refine AllLt.of ?_ | refine SV.lt_tup ?_ | exact SV.lt_fn0 | exact AT.lt_fn0 | exact RepV.clo (by assumption) | constructor))) fun k ⟨hk1, hE⟩ => ?_
  (repeat (first | refine cj_seq ?_ | (refine cj_region ?_; refine oj_run TT rfl ?_) | refine oj_then ?_ | refine oj_nil ?_ | refine cj_if_t rfl ?_ | refine cj_if_f rfl ?_ | refine cj_skip ?_ | refine cj_block ?_ | refine cj_exit ?_ | refine cj_ret ?_ | refine nj_then ?_ | refine nj_then_exit ?_ | refine nj_then_ret ?_ | refine nj_block ?_ | refine nj_block_ret ?_ | refine nj_block_out ?_ | refine nj_block_on rfl ?_ | (refine oj_band rfl rfl rfl rfl rfl rfl ?_; refine oj_run TT rfl ?_) | (refine oj_bor rfl rfl rfl rfl rfl rfl ?_; refine oj_run TT rfl ?_) | (refine oj_bandnot rfl rfl rfl rfl rfl rfl ?_; refine oj_run TT rfl ?_) | (refine oj_conv TT _ rfl rfl rfl rfl rfl rfl rfl rfl rfl ?_; refine oj_run TT rfl ?_) | (refine oj_bshl rfl rfl rfl rfl rfl rfl (by decide) ?_; refine oj_run TT rfl ?_) | (refine oj_bshr rfl rfl rfl rfl rfl rfl (by decide) ?_; refine oj_run TT rfl ?_) | (refine oj_slnil TT rfl rfl rfl rfl rfl rfl rfl rfl ?_; refine oj_run TT rfl ?_) | (refine oj_add rfl rfl rfl rfl rfl rfl (by omega) ?_; refine oj_run TT rfl ?_) | (refine oj_minus rfl rfl rfl rfl rfl rfl (by omega) ?_; refine oj_run TT rfl ?_)))
  refine cj_if rfl (fun h => ?_) (fun h => ?_)
  rotate_left
  · have hk0 : k = ga.ks.length := by have := of_decide_eq_false h; omega
    rw [List.drop_of_length_le (by omega), exactM] at hE
    (repeat (first | refine cj_seq ?_ | (refine cj_region ?_; refine oj_run TT rfl ?_) | refine oj_then ?_ | refine oj_nil ?_ | refine cj_if_t rfl ?_ | refine cj_if_f rfl ?_ | refine cj_skip ?_ | refine cj_block ?_ | refine cj_exit ?_ | refine cj_ret ?_ | refine nj_then ?_ | refine nj_then_exit ?_ | refine nj_then_ret ?_ | refine nj_block ?_ | refine nj_block_ret ?_ | refine nj_block_out ?_ | refine nj_block_on rfl ?_ | (refine oj_band rfl rfl rfl rfl rfl rfl ?_; refine oj_run TT rfl ?_) | (refine oj_bor rfl rfl rfl rfl rfl rfl ?_; refine oj_run TT rfl ?_) | (refine oj_bandnot rfl rfl rfl rfl rfl rfl ?_; refine oj_run TT rfl ?_) | (refine oj_conv TT _ rfl rfl rfl rfl rfl rfl rfl rfl rfl ?_; refine oj_run TT rfl ?_) | (refine oj_bshl rfl rfl rfl rfl rfl rfl (by decide) ?_; refine oj_run TT rfl ?_) | (refine oj_bshr rfl rfl rfl rfl rfl rfl (by decide) ?_; refine oj_run TT rfl ?_) | (refine oj_slnil TT rfl rfl rfl rfl rfl rfl rfl rfl ?_; refine oj_run TT rfl ?_) | (refine oj_add rfl rfl rfl rfl rfl rfl (by omega) ?_; refine oj_run TT rfl ?_) | (refine oj_minus rfl rfl rfl rfl rfl rfl (by omega) ?_; refine oj_run TT rfl ?_)))
    refine nj_ret TT rfl fun β w' _ _ => ?_
    rw [hE]; rfl
  have hkl : k < ga.ks.length := by have := of_decide_eq_true h; omega
  have hkl' : k < gb.ks.length := by omega
  have hkv1 : k < ga.vs.length := by omega
  have hkv2 : k < gb.vs.length := by omega
  rw [List.drop_eq_getElem_cons hkl, List.drop_eq_getElem_cons hkl', List.drop_eq_getElem_cons hkv1, List.drop_eq_getElem_cons hkv2, exactM] at hE
  obtain ⟨r1, hr1, hp1⟩ := V.v.get (List.getElem?_eq_getElem hkv1)
  obtain ⟨r2, hr2, hp2⟩ := V'.v.get (List.getElem?_eq_getElem hkv2)
  have hih := ih _ (weight_v (List.getElem_mem hkv1)) σ gb.vs[k] r1 r2 hp1 hp2
  have hrow1 := keyRows_get (List.getElem?_eq_getElem hkl) hr1
  have hrow2 := keyRows_get (List.getElem?_eq_getElem hkl') hr2
  obtain ⟨xa, xb, xc, xd, xe, xf, rfl, X⟩ := hp1.open
  obtain ⟨ya, yb, yc, yd, ye, yf, rfl, Y⟩ := hp2.open
  (repeat (first | refine cj_seq ?_ | (refine cj_region ?_; refine oj_run TT rfl ?_) | refine oj_then ?_ | refine oj_nil ?_ | refine cj_if_t rfl ?_ | refine cj_if_f rfl ?_ | refine cj_skip ?_ | refine cj_block ?_ | refine cj_exit ?_ | refine cj_ret ?_ | refine nj_then ?_ | refine nj_then_exit ?_ | refine nj_then_ret ?_ | refine nj_block ?_ | refine nj_block_ret ?_ | refine nj_block_out ?_ | refine nj_block_on rfl ?_ | (refine oj_band rfl rfl rfl rfl rfl rfl ?_; refine oj_run TT rfl ?_) | (refine oj_bor rfl rfl rfl rfl rfl rfl ?_; refine oj_run TT rfl ?_) | (refine oj_bandnot rfl rfl rfl rfl rfl rfl ?_; refine oj_run TT rfl ?_) | (refine oj_conv TT _ rfl rfl rfl rfl rfl rfl rfl rfl rfl ?_; refine oj_run TT rfl ?_) | (refine oj_bshl rfl rfl rfl rfl rfl rfl (by decide) ?_; refine oj_run TT rfl ?_) | (refine oj_bshr rfl rfl rfl rfl rfl rfl (by decide) ?_; refine oj_run TT rfl ?_) | (refine oj_slnil TT rfl rfl rfl rfl rfl rfl rfl rfl ?_; refine oj_run TT rfl ?_) | (refine oj_add rfl rfl rfl rfl rfl rfl (by omega) ?_; refine oj_run TT rfl ?_) | (refine oj_minus rfl rfl rfl rfl rfl rfl (by omega) ?_; refine oj_run TT rfl ?_)))
  refine cj_draw [(0,.pure),(1,.quiet),(2,.pure),(3,.pure),(4,.pure),(5,.quiet),(6,.pure),(7,.quiet),(8,.pure),(9,.pure),(10,.pure),(11,.quiet),(12,.pure),(13,.pure),(14,.pure),(15,.quiet),(16,.pure),(17,.pure),(18,.pure),(19,.quiet),(20,.pure),(21,.quiet),(22,.pure),(23,.pure),(24,.pure),(25,.quiet),(26,.keep),(27,.pure),(28,.pure)] mixed (by kernel_rfl) (oj_run TT rfl ?_)
  refine oj_idx TT rfl rfl rfl rfl rfl rfl rfl rfl rfl V.M (by omega) hrow1 (oj_run TT rfl ?_)
  refine oj_idx TT rfl rfl rfl rfl rfl rfl rfl rfl rfl V'.M (by omega) hrow2 (oj_run TT rfl ?_)
  refine oj_split 90 rfl (fun h => ?_) (fun h => ?_)
  · rw [show decide (ga.ks[k] = gb.ks[k]) = false by simpa using h] at hE
    simp only [Bool.false_and] at hE
    refine oj_run TT rfl ?_
    (repeat (first | refine cj_seq ?_ | (refine cj_region ?_; refine oj_run TT rfl ?_) | refine oj_then ?_ | refine oj_nil ?_ | refine cj_if_t rfl ?_ | refine cj_if_f rfl ?_ | refine cj_skip ?_ | refine cj_block ?_ | refine cj_exit ?_ | refine cj_ret ?_ | refine nj_then ?_ | refine nj_then_exit ?_ | refine nj_then_ret ?_ | refine nj_block ?_ | refine nj_block_ret ?_ | refine nj_block_out ?_ | refine nj_block_on rfl ?_ | (refine oj_band rfl rfl rfl rfl rfl rfl ?_; refine oj_run TT rfl ?_) | (refine oj_bor rfl rfl rfl rfl rfl rfl ?_; refine oj_run TT rfl ?_) | (refine oj_bandnot rfl rfl rfl rfl rfl rfl ?_; refine oj_run TT rfl ?_) | (refine oj_conv TT _ rfl rfl rfl rfl rfl rfl rfl rfl rfl ?_; refine oj_run TT rfl ?_) | (refine oj_bshl rfl rfl rfl rfl rfl rfl (by decide) ?_; refine oj_run TT rfl ?_) | (refine oj_bshr rfl rfl rfl rfl rfl rfl (by decide) ?_; refine oj_run TT rfl ?_) | (refine oj_slnil TT rfl rfl rfl rfl rfl rfl rfl rfl ?_; refine oj_run TT rfl ?_) | (refine oj_add rfl rfl rfl rfl rfl rfl (by omega) ?_; refine oj_run TT rfl ?_) | (refine oj_minus rfl rfl rfl rfl rfl rfl (by omega) ?_; refine oj_run TT rfl ?_)))
    refine nj_ret TT rfl fun β w' _ _ => ?_
    rw [hE]; rfl
  rw [show decide (ga.ks[k] = gb.ks[k]) = true by simpa using h, Bool.true_and] at hE
  refine oj_run TT rfl ?_
  refine oj_idx TT rfl rfl rfl rfl rfl rfl rfl rfl rfl V.M (by omega) hrow1 (oj_run TT rfl ?_)
  refine oj_idx TT rfl rfl rfl rfl rfl rfl rfl rfl rfl V'.M (by omega) hrow2 (oj_run TT rfl ?_)
  refine oj_callP rfl rfl rfl rfl rfl Tryd.call23 (by (repeat' (first | exact trivial | exact Nat.le_of_ble_eq_true rfl | exact vCells_lt _ _ _ _ _ _ | exact decCells_lt _ _ | refine AllLt.of ?_ | refine SV.lt_tup ?_ | exact SV.lt_fn0 | exact AT.lt_fn0 | exact RepV.clo (by assumption) | constructor))) hih fun v hv => ⟨.a (.b (exactG ga.vs[k] gb.vs[k])), trivial, hv.symm, ?_⟩
  refine oj_run TT rfl ?_
  (repeat (first | refine cj_seq ?_ | (refine cj_region ?_; refine oj_run TT rfl ?_) | refine oj_then ?_ | refine oj_nil ?_ | refine cj_if_t rfl ?_ | refine cj_if_f rfl ?_ | refine cj_skip ?_ | refine cj_block ?_ | refine cj_exit ?_ | refine cj_ret ?_ | refine nj_then ?_ | refine nj_then_exit ?_ | refine nj_then_ret ?_ | refine nj_block ?_ | refine nj_block_ret ?_ | refine nj_block_out ?_ | refine nj_block_on rfl ?_ | (refine oj_band rfl rfl rfl rfl rfl rfl ?_; refine oj_run TT rfl ?_) | (refine oj_bor rfl rfl rfl rfl rfl rfl ?_; refine oj_run TT rfl ?_) | (refine oj_bandnot rfl rfl rfl rfl rfl rfl ?_; refine oj_run TT rfl ?_) | (refine oj_conv TT _ rfl rfl rfl rfl rfl rfl rfl rfl rfl ?_; refine oj_run TT rfl ?_) | (refine oj_bshl rfl rfl rfl rfl rfl rfl (by decide) ?_; refine oj_run TT rfl ?_) | (refine oj_bshr rfl rfl rfl rfl rfl rfl (by decide) ?_; refine oj_run TT rfl ?_) | (refine oj_slnil TT rfl rfl rfl rfl rfl rfl rfl rfl ?_; refine oj_run TT rfl ?_) | (refine oj_add rfl rfl rfl rfl rfl rfl (by omega) ?_; refine oj_run TT rfl ?_) | (refine oj_minus rfl rfl rfl rfl rfl rfl (by omega) ?_; refine oj_run TT rfl ?_)))
  refine cj_if rfl (fun h => ?_) (fun h => ?_)
  · rw [show exactG ga.vs[k] gb.vs[k] = false by simpa using h] at hE
    (repeat (first | refine cj_seq ?_ | (refine cj_region ?_; refine oj_run TT rfl ?_) | refine oj_then ?_ | refine oj_nil ?_ | refine cj_if_t rfl ?_ | refine cj_if_f rfl ?_ | refine cj_skip ?_ | refine cj_block ?_ | refine cj_exit ?_ | refine cj_ret ?_ | refine nj_then ?_ | refine nj_then_exit ?_ | refine nj_then_ret ?_ | refine nj_block ?_ | refine nj_block_ret ?_ | refine nj_block_out ?_ | refine nj_block_on rfl ?_ | (refine oj_band rfl rfl rfl rfl rfl rfl ?_; refine oj_run TT rfl ?_) | (refine oj_bor rfl rfl rfl rfl rfl rfl ?_; refine oj_run TT rfl ?_) | (refine oj_bandnot rfl rfl rfl rfl rfl rfl ?_; refine oj_run TT rfl ?_) | (refine oj_conv TT _ rfl rfl rfl rfl rfl rfl rfl rfl rfl ?_; refine oj_run TT rfl ?_) | (refine oj_bshl rfl rfl rfl rfl rfl rfl (by decide) ?_; refine oj_run TT rfl ?_) | (refine oj_bshr rfl rfl rfl rfl rfl rfl (by decide) ?_; refine oj_run TT rfl ?_) | (refine oj_slnil TT rfl rfl rfl rfl rfl rfl rfl rfl ?_; refine oj_run TT rfl ?_) | (refine oj_add rfl rfl rfl rfl rfl rfl (by omega) ?_; refine oj_run TT rfl ?_) | (refine oj_minus rfl rfl rfl rfl rfl rfl (by omega) ?_; refine oj_run TT rfl ?_)))
    refine nj_ret TT rfl fun β w' _ _ => ?_
    rw [hE]; rfl
  · rw [show exactG ga.vs[k] gb.vs[k] = true by simpa using h, Bool.true_and] at hE
    (repeat (first | refine cj_seq ?_ | (refine cj_region ?_; refine oj_run TT rfl ?_) | refine oj_then ?_ | refine oj_nil ?_ | refine cj_if_t rfl ?_ | refine cj_if_f rfl ?_ | refine cj_skip ?_ | refine cj_block ?_ | refine cj_exit ?_ | refine cj_ret ?_ | refine nj_then ?_ | refine nj_then_exit ?_ | refine nj_then_ret ?_ | refine nj_block ?_ | refine nj_block_ret ?_ | refine nj_block_out ?_ | refine nj_block_on rfl ?_ | (refine oj_band rfl rfl rfl rfl rfl rfl ?_; refine oj_run TT rfl ?_) | (refine oj_bor rfl rfl rfl rfl rfl rfl ?_; refine oj_run TT rfl ?_) | (refine oj_bandnot rfl rfl rfl rfl rfl rfl ?_; refine oj_run TT rfl ?_) | (refine oj_conv TT _ rfl rfl rfl rfl rfl rfl rfl rfl rfl ?_; refine oj_run TT rfl ?_) | (refine oj_bshl rfl rfl rfl rfl rfl rfl (by decide) ?_; refine oj_run TT rfl ?_) | (refine oj_bshr rfl rfl rfl rfl rfl rfl (by decide) ?_; refine oj_run TT rfl ?_) | (refine oj_slnil TT rfl rfl rfl rfl rfl rfl rfl rfl ?_; refine oj_run TT rfl ?_) | (refine oj_add rfl rfl rfl rfl rfl rfl (by omega) ?_; refine oj_run TT rfl ?_) | (refine oj_minus rfl rfl rfl rfl rfl rfl (by omega) ?_; refine oj_run TT rfl ?_)))
    refine nj_again (k + 1) ⟨hkl, hE⟩ (by omega) rfl (by (repeat (first | exact trivial | refine And.intro rfl ?_))) (by (repeat (first | exact trivial | refine And.intro rfl ?_))) rfl (by (repeat' (first | exact trivial | exact Nat.le_of_ble_eq_true rfl | exact vCells_lt _ _ _ _ _ _ | exact decCells_lt _ _ | refine AllLt.of ?_ | refine SV.lt_tup ?_ | exact SV.lt_fn0 | exact AT.lt_fn0 | exact RepV.clo (by assumption) | constructor))) (by (repeat' (first | exact trivial | exact Nat.le_of_ble_eq_true rfl | exact vCells_lt _ _ _ _ _ _ | exact decCells_lt _ _ | refine AllLt.of ?_ | refine SV.lt_tup ?_ | exact SV.lt_fn0 | exact AT.lt_fn0 | exact RepV.clo (by assumption) | constructor)))
end Go.Sy
