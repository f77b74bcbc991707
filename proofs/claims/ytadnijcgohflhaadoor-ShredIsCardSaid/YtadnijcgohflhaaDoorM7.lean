/- Parts of the proof of CShredIs: F16, F17, La, F19, F20, Lc, F22, SyR, F23, F24. No conditions. -/
import Derived.Test.YtadnijcgohflhaaDoorM6
namespace Go.Sy
open Go.Proofs

/-! ### Exact -/

mutual
/-- Are all fields the same, in one order? -/
def exactG : GVal → GVal → Bool
  | .mk k b n s l ks vs, g => decide (k = g.kind) && (b == g.b) && decide (n = g.n) && decide (s = g.s) && decide (l.length = g.l.length) && decide (ks.length = g.ks.length) && (exactL l g.l && exactM vs ks g.vs g.ks)
def exactL : List GVal → List GVal → Bool
  | [], _ => true
  | _ :: _, [] => false
  | x :: l, y :: m => exactG x y && exactL l m
def exactM : List GVal → List ByteArray → List GVal → List ByteArray → Bool
  | [], _, _, _ => true
  | x :: l, k :: ks, y :: m, h :: hs => decide (k = h) && exactG x y && exactM l ks m hs
  | _ :: _, _, _, _ => false
end

theorem exactG_eq (a b : GVal) : exactG a b = (decide (a.kind = b.kind) && (a.b == b.b) && decide (a.n = b.n) && decide (a.s = b.s) && decide (a.l.length = b.l.length) && decide (a.ks.length = b.ks.length) && (exactL a.l b.l && exactM a.vs a.ks b.vs b.ks)) := by
  cases a; rfl

mutual
theorem exactG_self : ∀ (g : GVal), g.wf → exactG g g = true
  | .mk k b n s l ks vs, h => by
    simp only [GVal.wf] at h
    simp only [exactG, GVal.kind, GVal.b, GVal.n, GVal.s, GVal.l, GVal.ks, GVal.vs, decide_true, beq_self_eq_true, Bool.and_self, exactL_self l h.2.1, exactM_self vs ks h.1.symm h.2.2]
theorem exactL_self : ∀ (l : List GVal), GVal.wfs l → exactL l l = true
  | [], _ => rfl
  | x :: l, h => by simp only [GVal.wfs] at h; simp only [exactL, exactG_self x h.1, exactL_self l h.2, Bool.and_self]
theorem exactM_self : ∀ (l : List GVal) (ks : List ByteArray), l.length = ks.length → GVal.wfs l → exactM l ks l ks = true
  | [], _, _, _ => rfl
  | x :: l, [], h, _ => by simp at h
  | x :: l, k :: ks, h, hw => by simp only [GVal.wfs] at hw; simp only [exactM, exactG_self x hw.1, exactM_self l ks (by simpa using h) hw.2, decide_true, Bool.and_self]
end

/-- Two decimals held against each other. -/
theorem oj_neDec {cf : Cf} {Q : Exit → Act → World → Prop} {σ : Snap} {env : Env} {hp : HP} {A : List AE} {nh : Nat} {it : Item} {rest : List Item} {d : Nat} {x y : Operand} {yt : TypeId} {ca cb : List AT} (a b : GDec) (hP : cf.P = Tryd.prog)
    (hop : it.o.op = .binOp .neq 23 x y yt) (hd : it.o.dst = some d) (hg : guardVal it.guard env = some true) (hN : Nat.blt d cf.N = true) (hx : evalO env x = some (.agg ca)) (hy : evalO env y = some (.agg cb)) (hca : ∀ β, ca.map (AT.den β) = (decCells a).map (AT.den β)) (hcb : ∀ β, cb.map (AT.den β) = (decCells b).map (AT.den β))
    (hk : OJ cf rest Q σ ((d, .a (.b (!decide (a = b)))) :: env) hp A nh) : OJ cf (it :: rest) Q σ env hp A nh := by
  refine oj_val (.a (.b (!decide (a = b)))) hd hg hN trivial (fun _ ac β ha w => ?_) hk
  have h1 : ac.eval x = .agg #[.bool a.neg, .string a.dg, .int .i64 a.ex] := (evalO_eval ha hx).trans (by simp only [SV.den, hca]; rfl)
  have h2 : ac.eval y = .agg #[.bool b.neg, .string b.dg, .int .i64 b.ex] := (evalO_eval ha hy).trans (by simp only [SV.den, hcb]; rfl)
  rw [hP]
  have hG : (eqGuard .neq 23 x y (.agg #[.bool a.neg, .string a.dg, .int .i64 a.ex]) (.agg #[.bool b.neg, .string b.dg, .int .i64 b.ex])).run Tryd.prog w = .ok () w := run_eqGuard_agg w _ _ _ _ _ _ (by kernel_rfl)
  have hE : (Op.equalIn 10000 23 (.agg #[.bool a.neg, .string a.dg, .int .i64 a.ex]) (.agg #[.bool b.neg, .string b.dg, .int .i64 b.ex])).run Tryd.prog w = .ok (decide (a = b)) w := eqDec_ok 9998 a b w
  have hB : (binOp .neq 23 (.agg #[.bool a.neg, .string a.dg, .int .i64 a.ex]) (.agg #[.bool b.neg, .string b.dg, .int .i64 b.ex])).run Tryd.prog w = .ok (.bool (!decide (a = b))) w := by
    rw [run_neq_struct, hE]
    rfl
  simp only [execOp, hop, h1, h2, Sem.run_bind, hG, hB, Result.andThen_ok, Sem.run_pure]
  rfl

set_option maxRecDepth 100000 in
set_option maxHeartbeats 4000000 in
theorem Exact_c (ga : GVal) : ∀ (σ : Snap) (gb : GVal) (ra rb : List AT), RepV σ ga ra → RepV σ gb rb → PlainS Tryd.prog 23 [.agg ra, .agg rb] σ (fun v => v = .bool (exactG ga gb)) := by
  induction ga using GVal.byWeight with | _ ga ih => ?_
  intro σ gb ra rb hra hrb
  obtain ⟨la, lc, lrows, ma, mc, vrows, rfl, V⟩ := hra.open
  obtain ⟨la', lc', lrows', ma', mc', vrows', rfl, V'⟩ := hrb.open
  have hE := exactG_eq ga gb
  have hll := V.ll
  have hkl := V.kl
  simp only [mostLen] at hll hkl
  have hkv := V.kv
  have hkv' := V'.kv
  generalize exactG ga gb = R at hE ⊢
  have off : ∀ {b : Bool}, R = b → b = false → R = false := fun h h' => h.trans h'
  refine enter_p Tryd.func23 rfl rfl (by (repeat' (first | exact trivial | exact vCells_lt _ _ _ _ _ _ | constructor))) fun w => ?_
  (repeat (first | refine cj_seq ?_ | (refine cj_region ?_; refine oj_run TT rfl ?_) | refine oj_then ?_))
  refine oj_split 12 rfl (fun h => ?_) (fun h => ?_)
  · rw [show decide (ga.kind = gb.kind) = false by simpa using h] at hE
    simp only [Bool.false_and] at hE
    refine oj_run TT rfl ?_
    (repeat (first | refine cj_seq ?_ | (refine cj_region ?_; refine oj_run TT rfl ?_) | refine oj_then ?_ | refine cj_if_t rfl ?_ | refine cj_ret ?_ | refine nj_then_ret ?_))
    refine nj_ret TT rfl fun β w' _ _ => ?_
    rw [hE]; rfl
  rw [show decide (ga.kind = gb.kind) = true by simpa using h] at hE
  refine oj_run TT rfl ?_
  refine oj_split 19 rfl (fun h => ?_) (fun h => ?_)
  · rw [show (ga.b == gb.b) = false by simpa using h] at hE
    simp only [Bool.false_and, Bool.and_false] at hE
    refine oj_run TT rfl ?_
    (repeat (first | refine cj_seq ?_ | (refine cj_region ?_; refine oj_run TT rfl ?_) | refine oj_then ?_ | refine cj_if_t rfl ?_ | refine cj_ret ?_ | refine nj_then_ret ?_))
    refine nj_ret TT rfl fun β w' _ _ => ?_
    rw [hE]; rfl
  rw [show (ga.b == gb.b) = true by simpa using h] at hE
  refine oj_run TT rfl ?_
  refine oj_neDec ga.n gb.n rfl rfl rfl rfl rfl rfl rfl (fun _ => rfl) (fun _ => rfl) (oj_run TT rfl ?_)
  refine oj_split 26 rfl (fun h => ?_) (fun h => ?_)
  · rw [show decide (ga.n = gb.n) = false by simpa using h] at hE
    simp only [Bool.false_and, Bool.and_false] at hE
    refine oj_run TT rfl ?_
    (repeat (first | refine cj_seq ?_ | (refine cj_region ?_; refine oj_run TT rfl ?_) | refine oj_then ?_ | refine cj_if_t rfl ?_ | refine cj_ret ?_ | refine nj_then_ret ?_))
    refine nj_ret TT rfl fun β w' _ _ => ?_
    rw [hE]; rfl
  rw [show decide (ga.n = gb.n) = true by simpa using h] at hE
  refine oj_run TT rfl ?_
  refine oj_split 33 rfl (fun h => ?_) (fun h => ?_)
  · rw [show decide (ga.s = gb.s) = false by simpa using h] at hE
    simp only [Bool.false_and, Bool.and_false] at hE
    refine oj_run TT rfl ?_
    (repeat (first | refine cj_seq ?_ | (refine cj_region ?_; refine oj_run TT rfl ?_) | refine oj_then ?_ | refine cj_if_t rfl ?_ | refine cj_ret ?_ | refine nj_then_ret ?_))
    refine nj_ret TT rfl fun β w' _ _ => ?_
    rw [hE]; rfl
  rw [show decide (ga.s = gb.s) = true by simpa using h] at hE
  refine oj_run TT rfl ?_
  refine oj_split 42 rfl (fun h => ?_) (fun h => ?_)
  · have : ga.l.length ≠ gb.l.length := by intro e; rw [e] at h; simp at h
    rw [show decide (ga.l.length = gb.l.length) = false by simpa using this] at hE
    simp only [Bool.false_and, Bool.and_false] at hE
    refine oj_run TT rfl ?_
    (repeat (first | refine cj_seq ?_ | (refine cj_region ?_; refine oj_run TT rfl ?_) | refine oj_then ?_ | refine cj_if_t rfl ?_ | refine cj_ret ?_ | refine nj_then_ret ?_))
    refine nj_ret TT rfl fun β w' _ _ => ?_
    rw [hE]; rfl
  have hl : ga.l.length = gb.l.length := by have : ((ga.l.length : Int) = gb.l.length) := by simpa using h
                                            omega
  rw [show decide (ga.l.length = gb.l.length) = true by simpa using hl] at hE
  refine oj_run TT rfl ?_
  (repeat refine oj_then ?_)
  refine cj_if rfl (fun h => ?_) (fun h => ?_)
  · have : ga.ks.length ≠ gb.ks.length := by intro e; rw [e] at h; simp at h
    rw [show decide (ga.ks.length = gb.ks.length) = false by simpa using this] at hE
    simp only [Bool.false_and, Bool.and_false] at hE
    (repeat (first | refine cj_seq ?_ | (refine cj_region ?_; refine oj_run TT rfl ?_) | refine oj_then ?_ | refine cj_ret ?_ | refine nj_then_ret ?_))
    refine nj_ret TT rfl fun β w' _ _ => ?_
    rw [hE]; rfl
  have hk : ga.ks.length = gb.ks.length := by have : ((ga.ks.length : Int) = gb.ks.length) := by simpa using h
                                              omega
  rw [show decide (ga.ks.length = gb.ks.length) = true by simpa using hk] at hE
  simp only [Bool.and_self, Bool.true_and] at hE
  (repeat (first | refine cj_seq ?_ | (refine cj_region ?_; refine oj_run TT rfl ?_) | refine oj_then ?_ | refine cj_skip ?_ | refine cj_block ?_ | refine nj_then ?_))
  refine cj_cutB (fun (_ : Nat) => σ) (fun _ => [(2, .a (.p 0 0)), (3, .a (.p 1 0))]) (fun _ => [(0, .loc 27, vCells ga la lc ma mc), (1, .loc 27, vCells gb la' lc' ma' mc')]) (fun _ => []) 2 (fun _ => R = exactM ga.vs ga.ks gb.vs gb.ks) ?_ (fun _ hE => ?_)
  · refine cj_loop (fun (_ : Nat) => σ) (fun k => [(2, .a (.p 0 0)), (3, .a (.p 1 0)), (5, .a (.v (.int .i64 k)))]) (fun _ => [(0, .loc 27, vCells ga la lc ma mc), (1, .loc 27, vCells gb la' lc' ma' mc')]) (fun _ => []) 2
      (fun k => k ≤ ga.l.length ∧ R = (exactL (ga.l.drop k) (gb.l.drop k) && exactM ga.vs ga.ks gb.vs gb.ks)) (fun k => ga.l.length - k) 0 ⟨Nat.zero_le _, hE⟩ rfl (by (repeat (first | exact trivial | refine And.intro rfl ?_))) (by (repeat (first | exact trivial | refine And.intro rfl ?_))) rfl (by (repeat' (first | exact trivial | exact Nat.le_of_ble_eq_true rfl | constructor))) (by (repeat' (first | exact trivial | exact Nat.le_of_ble_eq_true rfl | exact vCells_lt _ _ _ _ _ _ | constructor))) fun k ⟨hk1, hE⟩ => ?_
    (repeat (first | refine cj_seq ?_ | (refine cj_region ?_; refine oj_run TT rfl ?_) | refine oj_then ?_))
    refine cj_if rfl (fun h => ?_) (fun h => ?_)
    rotate_left
    · have hk0 : k = ga.l.length := by have := of_decide_eq_false h; omega
      subst hk0
      rw [List.drop_length, exactL, Bool.true_and] at hE
      (repeat (first | refine cj_exit ?_ | refine nj_then_exit ?_ | refine nj_block_out ?_))
      refine nj_again 0 hE Nat.zero_lt_one rfl (by (repeat (first | exact trivial | refine And.intro rfl ?_))) (by (repeat (first | exact trivial | refine And.intro rfl ?_))) rfl (by (repeat' (first | exact trivial | exact Nat.le_of_ble_eq_true rfl | constructor))) (by (repeat' (first | exact trivial | exact Nat.le_of_ble_eq_true rfl | exact vCells_lt _ _ _ _ _ _ | constructor)))
    have hkl : k < ga.l.length := by have := of_decide_eq_true h; omega
    have hkl' : k < gb.l.length := by omega
    rw [List.drop_eq_getElem_cons hkl, List.drop_eq_getElem_cons hkl', exactL] at hE
    obtain ⟨r1, hr1, hp1⟩ := V.l.get (List.getElem?_eq_getElem hkl)
    obtain ⟨r2, hr2, hp2⟩ := V'.l.get (List.getElem?_eq_getElem hkl')
    have hih := ih _ (weight_l (List.getElem_mem hkl)) σ gb.l[k] r1 r2 hp1 hp2
    obtain ⟨xa, xb, xc, xd, xe, xf, rfl, X⟩ := hp1.open
    obtain ⟨ya, yb, yc, yd, ye, yf, rfl, Y⟩ := hp2.open
    (repeat (first | refine cj_seq ?_ | refine cj_skip ?_ | refine cj_block ?_ | refine nj_then ?_))
    refine cj_draw [(0,.pure),(1,.quiet),(2,.pure),(3,.pure),(4,.quiet),(5,.pure),(6,.quiet),(7,.pure),(8,.pure),(9,.quiet),(10,.keep),(11,.pure)] mixed (by kernel_rfl) (oj_run TT rfl ?_)
    refine oj_idx TT rfl rfl rfl rfl rfl rfl rfl rfl rfl V.L (by omega) hr1 (oj_run TT rfl ?_)
    refine oj_idx TT rfl rfl rfl rfl rfl rfl rfl rfl rfl V'.L (by omega) hr2 (oj_run TT rfl ?_)
    refine oj_callP rfl rfl rfl rfl rfl Tryd.call23 (by (repeat' (first | exact trivial | exact vCells_lt _ _ _ _ _ _ | constructor))) hih fun v hv => ⟨.a (.b (exactG ga.l[k] gb.l[k])), trivial, hv.symm, ?_⟩
    refine oj_run TT rfl ?_
    (repeat refine oj_then ?_)
    refine cj_if rfl (fun h => ?_) (fun h => ?_)
    · rw [show exactG ga.l[k] gb.l[k] = false by simpa using h] at hE
      (repeat (first | refine cj_seq ?_ | (refine cj_region ?_; refine oj_run TT rfl ?_) | refine oj_then ?_ | refine cj_ret ?_ | refine nj_then_ret ?_ | refine nj_block_ret ?_))
      refine nj_ret TT rfl fun β w' _ _ => ?_
      rw [hE]; rfl
    · rw [show exactG ga.l[k] gb.l[k] = true by simpa using h, Bool.true_and] at hE
      (repeat (first | (refine cj_region ?_; refine oj_run TT rfl ?_) | refine oj_nil ?_ | refine cj_skip ?_ | refine nj_then ?_ | refine nj_block ?_ | (refine oj_add rfl rfl rfl rfl rfl rfl (by omega) ?_; refine oj_run TT rfl ?_)))
      refine nj_again (k + 1) ⟨hkl, hE⟩ (by omega) rfl (by (repeat (first | exact trivial | refine And.intro rfl ?_))) (by (repeat (first | exact trivial | refine And.intro rfl ?_))) rfl (by (repeat' (first | exact trivial | exact Nat.le_of_ble_eq_true rfl | constructor))) (by (repeat' (first | exact trivial | exact Nat.le_of_ble_eq_true rfl | exact vCells_lt _ _ _ _ _ _ | constructor)))
  (repeat (first | refine cj_seq ?_ | (refine cj_region ?_; refine oj_run TT rfl ?_) | refine oj_then ?_ | refine cj_block ?_))
  refine cj_loop (fun (_ : Nat) => σ) (fun k => [(2, .a (.p 0 0)), (3, .a (.p 1 0)), (6, .a (.v (.int .i64 k)))]) (fun _ => [(0, .loc 27, vCells ga la lc ma mc), (1, .loc 27, vCells gb la' lc' ma' mc')]) (fun _ => []) 2
    (fun k => k ≤ ga.ks.length ∧ R = exactM (ga.vs.drop k) (ga.ks.drop k) (gb.vs.drop k) (gb.ks.drop k)) (fun k => ga.ks.length - k) 0 ⟨Nat.zero_le _, hE⟩ rfl (by (repeat (first | exact trivial | refine And.intro rfl ?_))) (by (repeat (first | exact trivial | refine And.intro rfl ?_))) rfl (by (repeat' (first | exact trivial | exact Nat.le_of_ble_eq_true rfl | constructor))) (by (repeat' (first | exact trivial | exact Nat.le_of_ble_eq_true rfl | exact vCells_lt _ _ _ _ _ _ | constructor))) fun k ⟨hk1, hE⟩ => ?_
  (repeat (first | refine cj_seq ?_ | (refine cj_region ?_; refine oj_run TT rfl ?_) | refine oj_then ?_))
  refine cj_if rfl (fun h => ?_) (fun h => ?_)
  rotate_left
  · have hk0 : k = ga.ks.length := by have := of_decide_eq_false h; omega
    rw [List.drop_of_length_le (by omega), exactM] at hE
    (repeat (first | refine cj_seq ?_ | (refine cj_region ?_; refine oj_run TT rfl ?_) | refine oj_then ?_ | refine cj_exit ?_ | refine cj_ret ?_ | refine nj_then ?_ | refine nj_then_exit ?_ | refine nj_block_out ?_))
    refine nj_ret TT rfl fun β w' _ _ => ?_
    rw [hE]; rfl
  have hkl : k < ga.ks.length := by have := of_decide_eq_true h; omega
  have hkl' : k < gb.ks.length := by omega
  have hkv1 : k < ga.vs.length := by omega
  have hkv2 : k < gb.vs.length := by omega
  rw [List.drop_eq_getElem_cons hkl, List.drop_eq_getElem_cons hkl', List.drop_eq_getElem_cons hkv1, List.drop_eq_getElem_cons hkv2, exactM] at hE
  obtain ⟨r1, hr1, hp1⟩ := V.v.get (List.getElem?_eq_getElem hkv1)
  obtain ⟨r2, hr2, hp2⟩ := V'.v.get (List.getElem?_eq_getElem hkv2)
  have hih := ih _ (weight_v (List.getElem_mem hkv1)) σ gb.vs[k] r1 r2 hp1 hp2
  have hrow1 := keyRows_get (List.getElem?_eq_getElem hkl) hr1
  have hrow2 := keyRows_get (List.getElem?_eq_getElem hkl') hr2
  obtain ⟨xa, xb, xc, xd, xe, xf, rfl, X⟩ := hp1.open
  obtain ⟨ya, yb, yc, yd, ye, yf, rfl, Y⟩ := hp2.open
  (repeat (first | refine cj_seq ?_ | refine cj_skip ?_ | refine cj_block ?_ | refine nj_then ?_))
  refine cj_draw [(0,.pure),(1,.quiet),(2,.pure),(3,.pure),(4,.pure),(5,.quiet),(6,.pure),(7,.quiet),(8,.pure),(9,.pure),(10,.pure),(11,.quiet),(12,.pure),(13,.pure),(14,.pure),(15,.quiet),(16,.pure),(17,.pure),(18,.pure),(19,.quiet),(20,.pure),(21,.quiet),(22,.pure),(23,.pure),(24,.pure),(25,.quiet),(26,.keep),(27,.pure),(28,.pure)] mixed (by kernel_rfl) (oj_run TT rfl ?_)
  refine oj_idx TT rfl rfl rfl rfl rfl rfl rfl rfl rfl V.M (by omega) hrow1 (oj_run TT rfl ?_)
  refine oj_idx TT rfl rfl rfl rfl rfl rfl rfl rfl rfl V'.M (by omega) hrow2 (oj_run TT rfl ?_)
  refine oj_split 90 rfl (fun h => ?_) (fun h => ?_)
  · rw [show decide (ga.ks[k] = gb.ks[k]) = false by simpa using h] at hE
    simp only [Bool.false_and] at hE
    refine oj_run TT rfl ?_
    (repeat (first | refine cj_seq ?_ | (refine cj_region ?_; refine oj_run TT rfl ?_) | refine oj_then ?_ | refine cj_if_t rfl ?_ | refine cj_ret ?_ | refine nj_then_ret ?_ | refine nj_block_ret ?_))
    refine nj_ret TT rfl fun β w' _ _ => ?_
    rw [hE]; rfl
  rw [show decide (ga.ks[k] = gb.ks[k]) = true by simpa using h, Bool.true_and] at hE
  refine oj_run TT rfl ?_
  refine oj_idx TT rfl rfl rfl rfl rfl rfl rfl rfl rfl V.M (by omega) hrow1 (oj_run TT rfl ?_)
  refine oj_idx TT rfl rfl rfl rfl rfl rfl rfl rfl rfl V'.M (by omega) hrow2 (oj_run TT rfl ?_)
  refine oj_callP rfl rfl rfl rfl rfl Tryd.call23 (by (repeat' (first | exact trivial | exact vCells_lt _ _ _ _ _ _ | constructor))) hih fun v hv => ⟨.a (.b (exactG ga.vs[k] gb.vs[k])), trivial, hv.symm, ?_⟩
  refine oj_run TT rfl ?_
  (repeat refine oj_then ?_)
  refine cj_if rfl (fun h => ?_) (fun h => ?_)
  · rw [show exactG ga.vs[k] gb.vs[k] = false by simpa using h] at hE
    (repeat (first | refine cj_seq ?_ | (refine cj_region ?_; refine oj_run TT rfl ?_) | refine oj_then ?_ | refine cj_ret ?_ | refine nj_then_ret ?_ | refine nj_block_ret ?_))
    refine nj_ret TT rfl fun β w' _ _ => ?_
    rw [hE]; rfl
  · rw [show exactG ga.vs[k] gb.vs[k] = true by simpa using h, Bool.true_and] at hE
    (repeat (first | (refine cj_region ?_; refine oj_run TT rfl ?_) | refine oj_nil ?_ | refine cj_skip ?_ | refine nj_then ?_ | refine nj_block ?_ | (refine oj_add rfl rfl rfl rfl rfl rfl (by omega) ?_; refine oj_run TT rfl ?_)))
    refine nj_again (k + 1) ⟨hkl, hE⟩ (by omega) rfl (by (repeat (first | exact trivial | refine And.intro rfl ?_))) (by (repeat (first | exact trivial | refine And.intro rfl ?_))) rfl (by (repeat' (first | exact trivial | exact Nat.le_of_ble_eq_true rfl | constructor))) (by (repeat' (first | exact trivial | exact Nat.le_of_ble_eq_true rfl | exact vCells_lt _ _ _ _ _ _ | constructor)))
end Go.Sy
namespace Go.Sy
open Go.Proofs

/-- Records that the program may be asked of. -/
structure RecsOk (L : List GRec) : Prop where
  len : L.length ≤ mostLen
  fit : RecsFit L
  bw : nestedG L = true → (buildG L).1.weight ≤ 1000000

/-! ### Parent -/

def atG (L : List GRec) (i : Int) : Bool := decide (0 ≤ i) && decide (i < (L.length : Int)) && soundG L

set_option maxRecDepth 100000 in
set_option maxHeartbeats 1000000 in
theorem at_c (σ : Snap) (L : List GRec) (R : RecsOk L) (ao : Option Addr) (cap : Nat) (H : SlAt σ ao L.length cap 11 (recRows L)) (i : Int) :
    PlainS Tryd.prog 76 [.a (.v (.slice ao L.length cap)), .a (.v (.int .i64 i))] σ (fun v => v = .bool (atG L i)) := by
  refine enter_p Tryd.func76 rfl rfl (by (repeat' (first | exact trivial | constructor))) fun w => ?_
  (repeat (first | refine cj_seq ?_ | (refine cj_region ?_; refine oj_run TT rfl ?_) | refine oj_then ?_))
  refine oj_split 7 rfl (fun h => ?_) (fun h => ?_)
  rotate_left
  · refine oj_run TT rfl ?_
    (repeat (first | refine oj_then ?_ | refine cj_ret ?_))
    refine nj_ret TT rfl fun β w' _ _ => ?_
    unfold atG
    rw [show decide (0 ≤ i) = false from h, Bool.false_and, Bool.false_and]
    rfl
  have h1 : decide (0 ≤ i) = true := h
  refine oj_run TT rfl ?_
  refine oj_split 13 rfl (fun h => ?_) (fun h => ?_)
  rotate_left
  · refine oj_run TT rfl ?_
    (repeat (first | refine oj_then ?_ | refine cj_ret ?_))
    refine nj_ret TT rfl fun β w' _ _ => ?_
    unfold atG
    rw [show decide (i < (L.length : Int)) = false from h, Bool.and_false, Bool.false_and]
    rfl
  have h2 : decide (i < (L.length : Int)) = true := h
  refine oj_run TT rfl ?_
  refine oj_callP rfl rfl rfl rfl rfl Tryd.call24 (by (repeat' (first | exact trivial | constructor))) (Sound_c σ L R.len R.fit R.bw ao cap H) fun v hv => ⟨.a (.b (soundG L)), trivial, hv.symm, ?_⟩
  refine oj_run TT rfl ?_
  (repeat (first | refine oj_then ?_ | refine cj_ret ?_))
  refine nj_ret TT rfl fun β w' _ _ => ?_
  unfold atG
  rw [h1, h2]
  rfl

/-- The place of the record that one stands in, whose Start is st; from k down. -/
def parentK (L : List GRec) (st : Int) : Nat → Int
  | 0 => -1
  | k + 1 => if (L[k]?.map GRec.en).getD 0 < st then parentK L st k else k
def parentG (L : List GRec) (i : Nat) : Int := parentK L ((L[i]?.map GRec.st).getD 0) i

set_option maxRecDepth 100000 in
set_option maxHeartbeats 1000000 in
theorem parent_c (σ : Snap) (L : List GRec) (hL : L.length ≤ mostLen) (ao : Option Addr) (cap : Nat) (H : SlAt σ ao L.length cap 11 (recRows L)) (i : Nat) (hi : i < L.length) :
    PlainS Tryd.prog 78 [.a (.v (.slice ao L.length cap)), .a (.v (.int .i64 i))] σ (fun v => v = .int .i64 (parentG L i)) := by
  simp only [mostLen] at hL
  have hrow := recRows_get (List.getElem?_eq_getElem hi)
  have hst : (L[i]?.map GRec.st).getD 0 = L[i].st := by rw [List.getElem?_eq_getElem hi]; rfl
  unfold parentG
  rw [hst]
  generalize L[i] = x at *
  refine enter_p Tryd.func78 rfl rfl (by (repeat' (first | exact trivial | constructor))) fun w => ?_
  (repeat (first | refine cj_seq ?_ | (refine cj_region ?_; refine oj_run TT rfl ?_) | refine oj_then ?_ | refine cj_block ?_ | (refine oj_minus rfl rfl rfl rfl rfl rfl (by omega) ?_; refine oj_run TT rfl ?_)))
  refine cj_loop (fun _ => σ) (fun (k : Nat) => [(0, .a (.v (.slice ao L.length cap))), (1, .a (.v (.int .i64 i))), (5, .a (.v (.int .i64 ((k : Int) - 1))))]) (fun _ => []) (fun _ => []) 0
    (fun k => k ≤ i ∧ parentK L x.st k = parentK L x.st i) (fun k => k) i ⟨Nat.le_refl _, rfl⟩ rfl (by (repeat (first | exact trivial | refine And.intro rfl ?_))) (by (repeat (first | exact trivial | refine And.intro rfl ?_))) rfl (by (repeat' (first | exact trivial | constructor))) (by (repeat' exact trivial)) fun k ⟨hk, hp⟩ => ?_
  (repeat refine cj_seq ?_)
  refine cj_draw [(0,.pure),(1,.pure),(2,.pure),(3,.pure),(4,.pure),(5,.pure),(6,.pure),(7,.quiet),(8,.pure),(9,.pure),(10,.pure),(11,.pure),(12,.quiet),(13,.pure),(14,.pure)] mixed (by kernel_rfl) (oj_run TT rfl ?_)
  refine oj_split 10 rfl (fun h => ?_) (fun h => ?_)
  rotate_left
  · have hk0 : k = 0 := by have := of_decide_eq_false h; omega
    subst hk0
    refine oj_run TT rfl ?_
    (repeat (first | refine cj_seq ?_ | (refine cj_region ?_; refine oj_run TT rfl ?_) | refine oj_then ?_ | refine cj_if_f rfl ?_ | refine cj_exit ?_ | refine cj_ret ?_ | refine nj_then ?_ | refine nj_then_exit ?_ | refine nj_block_out ?_))
    refine nj_ret TT rfl fun β w' _ _ => ?_
    rw [← hp]
    rfl
  obtain ⟨k, rfl⟩ : ∃ m, k = m + 1 := ⟨k - 1, by have := of_decide_eq_true h; omega⟩
  have hkl : k < L.length := by omega
  have hrow1 := recRows_get (List.getElem?_eq_getElem hkl)
  have hen : (L[k]?.map GRec.en).getD 0 = L[k].en := by rw [List.getElem?_eq_getElem hkl]; rfl
  rw [parentK, hen] at hp
  have he : ((k + 1 : Nat) : Int) - 1 = k := by omega
  rw [he]
  generalize L[k] = y at *
  refine oj_run TT rfl ?_
  refine oj_idx TT rfl rfl rfl rfl rfl rfl rfl rfl rfl H (by omega) hrow1 (oj_run TT rfl ?_)
  refine oj_idx TT rfl rfl rfl rfl rfl rfl rfl rfl rfl H (by omega) hrow (oj_run TT rfl ?_)
  (repeat refine oj_then ?_)
  refine cj_if rfl (fun h => ?_) (fun h => ?_)
  · rw [if_pos (of_decide_eq_true h)] at hp
    (repeat (first | (refine cj_region ?_; refine oj_run TT rfl ?_) | refine oj_nil ?_ | refine cj_skip ?_ | refine cj_block ?_ | refine nj_then ?_ | refine nj_block ?_ | (refine oj_minus rfl rfl rfl rfl rfl rfl (by omega) ?_; refine oj_run TT rfl ?_)))
    refine nj_again k ⟨by omega, hp⟩ (Nat.lt_succ_self k) rfl (by (repeat (first | exact trivial | refine And.intro rfl ?_))) (by (repeat (first | exact trivial | refine And.intro rfl ?_))) rfl (by (repeat' (first | exact trivial | constructor))) (by (repeat' exact trivial))
  · rw [if_neg (of_decide_eq_false h)] at hp
    (repeat (first | refine cj_seq ?_ | (refine cj_region ?_; refine oj_run TT rfl ?_) | refine oj_then ?_ | refine cj_exit ?_ | refine cj_ret ?_ | refine nj_then ?_ | refine nj_then_exit ?_ | refine nj_block_out ?_))
    refine nj_ret TT rfl fun β w' _ _ => ?_
    rw [← hp]
    rfl

set_option maxRecDepth 100000 in
set_option maxHeartbeats 1000000 in
theorem Parent_c (σ : Snap) (L : List GRec) (R : RecsOk L) (ao : Option Addr) (cap : Nat) (H : SlAt σ ao L.length cap 11 (recRows L)) (i : Int) :
    PlainS Tryd.prog 36 [.a (.v (.slice ao L.length cap)), .a (.v (.int .i64 i))] σ (fun v => v = .int .i64 (if atG L i then parentG L i.toNat else -1)) := by
  refine enter_p Tryd.func36 rfl rfl (by (repeat' (first | exact trivial | constructor))) fun w => ?_
  (repeat (first | refine cj_seq ?_ | (refine cj_region ?_; refine oj_run TT rfl ?_) | refine oj_then ?_))
  refine oj_callP rfl rfl rfl rfl rfl Tryd.call76 (by (repeat' (first | exact trivial | constructor))) (at_c σ L R ao cap H i) fun v hv => ⟨.a (.b (atG L i)), trivial, hv.symm, ?_⟩
  refine oj_run TT rfl ?_
  (repeat refine oj_then ?_)
  refine cj_if rfl (fun h => ?_) (fun h => ?_)
  · have h : atG L i = false := by simpa using h
    (repeat (first | refine cj_seq ?_ | (refine cj_region ?_; refine oj_run TT rfl ?_) | refine oj_then ?_ | refine cj_ret ?_ | refine nj_then_ret ?_))
    refine nj_ret TT rfl fun β w' _ _ => ?_
    rw [if_neg (by simp [h])]
    rfl
  have h : atG L i = true := by simpa using h
  have hb : 0 ≤ i ∧ i < L.length := by
    unfold atG at h
    simp only [Bool.and_eq_true, decide_eq_true_eq] at h
    exact h.1
  obtain ⟨j, rfl⟩ : ∃ j : Nat, i = j := ⟨i.toNat, by omega⟩
  (repeat (first | refine cj_seq ?_ | (refine cj_region ?_; refine oj_run TT rfl ?_) | refine cj_skip ?_ | refine nj_then ?_))
  refine oj_callP rfl rfl rfl rfl rfl Tryd.call78 (by (repeat' (first | exact trivial | constructor))) (parent_c σ L R.len ao cap H j (by omega)) fun v hv => ⟨.a (.v (.int .i64 (parentG L j))), trivial, hv.symm, ?_⟩
  refine oj_run TT rfl ?_
  (repeat (first | refine oj_then ?_ | refine cj_ret ?_))
  refine nj_ret TT rfl fun β w' _ _ => ?_
  rw [if_pos h]
  rfl

/-! ### awake -/

def awG : GVal := .mk 4 false dec0 emptyS [.mk 1 true dec0 emptyS [] [] []] [] []
def awL : List GRec := [⟨10, 40, 0, 4, false, emptyS, false, dec0, emptyS⟩, ⟨20, 30, 1, 1, false, emptyS, true, dec0, emptyS⟩]
theorem aw_shred : shredG awG 10 = (awL, 0) := by decide
theorem aw_sound : soundG awL = true := by decide
theorem aw_parent : (if atG awL 1 then parentG awL (1 : Int).toNat else -1) = 0 := by decide
theorem aw_ok : RecsOk awL := ⟨by decide, fun r hr => by simp only [awL, List.mem_cons, List.not_mem_nil, or_false] at hr; rcases hr with rfl | rfl <;> exact ⟨by decide, by decide, by decide⟩, fun _ => by decide⟩

set_option maxRecDepth 100000 in
set_option maxHeartbeats 1000000 in
theorem awake11_c (σ : Snap) : PlainS Tryd.prog 18 [] σ (fun v => v = .bool true) := by
  refine enter_p Tryd.func18 rfl rfl (by (repeat' exact trivial)) fun w => ?_
  (repeat (first | refine cj_seq ?_ | (refine cj_region ?_; refine oj_run TT rfl ?_) | refine oj_then ?_))
  refine oj_own 0 1 8 rfl (by (repeat' (first | exact trivial | refine AllLt.of ?_ | constructor))) rfl (by decide) fun g1 => ?_
  refine oj_seal 0 rfl rfl rfl fun σ1 hle1 hS => ?_
  have H1 : SlAt σ1 (some ⟨g1, 0, none⟩) 1 1 8 [vCells (.mk 1 true dec0 emptyS [] [] []) none 0 none 0] := hS.sl (rows := [vCells (.mk 1 true dec0 emptyS [] [] []) none 0 none 0]) rfl (fun r hr => by rw [List.mem_singleton.1 hr]; exact ⟨rfl, vCells_lt _ _ _ _ _ _⟩) rfl rfl (Nat.le_refl _)
  have hrep1 : RepV σ1 (.mk 1 true dec0 emptyS [] [] []) (vCells (.mk 1 true dec0 emptyS [] [] []) none 0 none 0) := by
    simp only [RepV]
    exact ⟨none, 0, [], none, 0, [], rfl, SlAt.nil _ _ _ _, rfl, rfl, SlAt.nil _ _ _ _, rfl, by decide, by decide, by decide, by decide, fun k h => (by cases h)⟩
  have hrep : RepV σ1 awG (vCells awG (some ⟨g1, 0, none⟩) 1 none 0) := by
    simp only [awG, RepV]
    exact ⟨some ⟨g1, 0, none⟩, 1, _, none, 0, [], rfl, H1, ⟨_, _, rfl, hrep1, rfl⟩, rfl, SlAt.nil _ _ _ _, rfl, by decide, by decide, by decide, by decide, fun k h => (by cases h)⟩
  refine oj_set 6 (.agg (vCells awG (some ⟨g1, 0, none⟩) 1 none 0)) rfl (vCells_lt _ _ _ _ _ _) (fun _ => rfl) ?_
  refine oj_callS rfl rfl rfl rfl rfl Tryd.call21 ⟨vCells_lt _ _ _ _ _ _, trivial, trivial⟩ (Shred_s σ1 awG _ 10 hrep (by decide)) fun v σ2 hle2 ⟨ao, cap, hv, H⟩ => ⟨.tup [.a (.v (.slice ao 2 cap)), .a (.v (.int .i64 0))], (by (repeat' (first | exact trivial | refine SV.lt_tup ?_ | constructor))), (by rw [hv, aw_shred]; rfl), ?_⟩
  rw [aw_shred] at H
  have H : SlAt σ2 ao 2 cap 11 (recRows awL) := H
  refine oj_run TT rfl ?_
  (repeat (first | refine cj_seq ?_ | (refine cj_region ?_; refine oj_run TT rfl ?_) | refine oj_then ?_))
  refine oj_split 12 rfl (fun h => ?_) (fun h => absurd h (by decide))
  refine oj_run TT rfl ?_
  refine oj_split 17 rfl (fun h => ?_) (fun h => absurd h (by decide))
  refine oj_run TT rfl ?_
  refine oj_idx TT rfl rfl rfl rfl rfl rfl rfl rfl rfl H (by decide) (show (recRows awL)[(0 : Int).toNat]? = some (recCells awL[0]) from rfl) (oj_run TT rfl ?_)
  refine oj_split 24 rfl (fun h => ?_) (fun h => absurd h (by decide))
  refine oj_run TT rfl ?_
  refine oj_idx TT rfl rfl rfl rfl rfl rfl rfl rfl rfl H (by decide) (show (recRows awL)[(0 : Int).toNat]? = some (recCells awL[0]) from rfl) (oj_run TT rfl ?_)
  refine oj_split 31 rfl (fun h => ?_) (fun h => absurd h (by decide))
  refine oj_run TT rfl ?_
  refine oj_idx TT rfl rfl rfl rfl rfl rfl rfl rfl rfl H (by decide) (show (recRows awL)[(1 : Int).toNat]? = some (recCells awL[1]) from rfl) (oj_run TT rfl ?_)
  refine oj_split 38 rfl (fun h => ?_) (fun h => absurd h (by decide))
  refine oj_run TT rfl ?_
  refine oj_idx TT rfl rfl rfl rfl rfl rfl rfl rfl rfl H (by decide) (show (recRows awL)[(1 : Int).toNat]? = some (recCells awL[1]) from rfl) (oj_run TT rfl ?_)
  refine oj_split 45 rfl (fun h => ?_) (fun h => absurd h (by decide))
  refine oj_run TT rfl ?_
  refine oj_idx TT rfl rfl rfl rfl rfl rfl rfl rfl rfl H (by decide) (show (recRows awL)[(1 : Int).toNat]? = some (recCells awL[1]) from rfl) (oj_run TT rfl ?_)
  refine oj_split 52 rfl (fun h => ?_) (fun h => absurd h (by decide))
  refine oj_run TT rfl ?_
  refine oj_callP rfl rfl rfl rfl rfl Tryd.call24 (by (repeat' (first | exact trivial | constructor))) (Sound_c σ2 awL aw_ok.len aw_ok.fit aw_ok.bw ao cap H) fun v hv => ⟨.a .tt, trivial, (by rw [hv, aw_sound]; rfl), ?_⟩
  refine oj_run TT rfl ?_
  refine oj_callP rfl rfl rfl rfl rfl Tryd.call36 (by (repeat' (first | exact trivial | constructor))) (Parent_c σ2 awL aw_ok ao cap H 1) fun v hv => ⟨.a (.v (.int .i64 0)), trivial, (by rw [hv, aw_parent]; rfl), ?_⟩
  refine oj_run TT rfl ?_
  (repeat (first | refine oj_then ?_ | refine cj_ret ?_))
  refine nj_ret TT rfl fun β w' _ _ => ?_
  rfl
end Go.Sy
/- Plain laws on a value's records: they are nested, named, and the value is built of them again. No program in sight. -/
namespace Go.Sy

/-- A record with its numbers turned. -/
def stE (φ : Int → Int) (r : GRec) : GRec := ⟨φ r.st, φ r.en, r.lv, r.kd, r.nm, r.name, r.b, r.n, r.s⟩
def Incr (φ : Int → Int) : Prop := ∀ a b, 0 ≤ a → a < b → φ a < φ b

/-! ### Kinds -/

mutual
def kindOk : GVal → Prop
  | .mk k _ _ _ l _ vs => (l ≠ [] → k ≠ 5) ∧ (vs ≠ [] → k = 5) ∧ kindOks l ∧ kindOks vs
def kindOks : List GVal → Prop
  | [] => True
  | g :: gs => kindOk g ∧ kindOks gs
end

theorem fields_kind {g : GVal} (h : fieldsG g = true) : (g.l ≠ [] → g.kind = 4) ∧ (g.ks ≠ [] → g.kind = 5) := by
  have key : ∀ (P : Prop) (hl : g.l = [] ∨ P) (_ : g.l ≠ []), P := fun P hl h => hl.resolve_left h
  by_cases h0 : g.kind = 0
  · rw [fieldsG_0 h0] at h
    simp only [Bool.and_eq_true, decide_eq_true_eq, List.length_eq_zero_iff] at h
    exact ⟨fun hh => absurd h.1.2 hh, fun hh => absurd h.2 hh⟩
  by_cases h1 : g.kind = 1
  · rw [fieldsG_1 h1] at h
    simp only [Bool.and_eq_true, decide_eq_true_eq, List.length_eq_zero_iff] at h
    exact ⟨fun hh => absurd h.1.2 hh, fun hh => absurd h.2 hh⟩
  by_cases h2 : g.kind = 2
  · rw [fieldsG_2 h2] at h
    simp only [Bool.and_eq_true, decide_eq_true_eq, List.length_eq_zero_iff] at h
    exact ⟨fun hh => absurd h.1.2 hh, fun hh => absurd h.2 hh⟩
  by_cases h3 : g.kind = 3
  · rw [fieldsG_3 h3] at h
    simp only [Bool.and_eq_true, decide_eq_true_eq, List.length_eq_zero_iff] at h
    exact ⟨fun hh => absurd h.1.2 hh, fun hh => absurd h.2 hh⟩
  by_cases h4 : g.kind = 4
  · rw [fieldsG_4 h4] at h
    simp only [Bool.and_eq_true, decide_eq_true_eq, List.length_eq_zero_iff] at h
    exact ⟨fun _ => h4, fun hh => absurd h.2 hh⟩
  by_cases h5 : g.kind = 5
  · rw [fieldsG_5 h5] at h
    simp only [Bool.and_eq_true, decide_eq_true_eq, List.length_eq_zero_iff] at h
    exact ⟨fun hh => absurd h.2 hh, fun _ => h5⟩
  · rw [fieldsG_x h0 h1 h2 h3 h4 h5] at h; cases h

mutual
theorem sane_kind : ∀ (g : GVal) (deep c : Int), g.wf → (saneG g deep c).1 = 0 → kindOk g
  | .mk k b n s l ks vs, deep, c, hw, h => by
    simp only [GVal.wf] at hw
    simp only [saneG] at h
    split at h
    · simp at h
    rename_i hf
    have hf : fieldsG (.mk k b n s l ks vs) = true := by simpa using hf
    obtain ⟨h1, h2⟩ := fields_kind hf
    simp only [GVal.l, GVal.ks, GVal.kind] at h1 h2
    split at h
    · simp at h
    split at h
    · simp at h
    split at h
    · simp at h
    simp only [kindOk]
    have hl : (saneL l deep (c + 1)).1 = 0 := by
      by_cases h0 : (saneL l deep (c + 1)).1 = 0
      · exact h0
      · rw [if_pos h0] at h; exact h
    rw [if_neg (by simp [hl])] at h
    refine ⟨fun hh e => ?_, fun hh => h2 fun e => hh ?_, sane_kinds l _ _ hw.2.1 hl, sane_kinds vs _ _ hw.2.2 h⟩
    · have := h1 hh; omega
    · have := hw.1
      rw [e] at this
      exact List.eq_nil_of_length_eq_zero this.symm
theorem sane_kinds : ∀ (gs : List GVal) (deep c : Int), GVal.wfs gs → (saneL gs deep c).1 = 0 → kindOks gs
  | [], _, _, _, _ => trivial
  | g :: gs, deep, c, hw, h => by
    simp only [GVal.wfs] at hw
    simp only [saneL] at h
    have hg : (saneG g (deep + 1) c).1 = 0 := by
      by_cases h0 : (saneG g (deep + 1) c).1 = 0
      · exact h0
      · rw [if_pos h0] at h; exact h
    rw [if_neg (by simp [hg])] at h
    exact ⟨sane_kind g _ _ hw.1 hg, sane_kinds gs _ _ hw.2 h⟩
end

/-! ### nested -/

theorem closeTo_same {lv : Int} {ro : List GRec} (e : Int) (h : (ro.length : Int) = lv) : closeTo lv ro e = some (ro, e) := by
  cases ro with
  | nil => rfl
  | cons t ro =>
    simp only [List.length_cons] at h
    rw [closeTo, if_neg (by omega)]

theorem closeTo_suffix : ∀ (lv : Int) (ro : List GRec) (last : Int) (p : List GRec × Int), closeTo lv ro last = some p → ∃ x, ro = x ++ p.1
  | lv, [], last, p, h => by simp only [closeTo, Option.some.injEq] at h; subst h; exact ⟨[], rfl⟩
  | lv, t :: ro, last, p, h => by
    simp only [closeTo] at h
    split at h
    · split at h
      · cases h
      · obtain ⟨x, hx⟩ := closeTo_suffix lv ro t.en p h
        exact ⟨t :: x, by rw [hx]; rfl⟩
    · simp only [Option.some.injEq] at h; subst h; exact ⟨[], rfl⟩

theorem closeTo_trans : ∀ (ro1 ro : List GRec) (last1 last : Int), closeTo ro.length (ro1 ++ ro) last1 = some (ro, last) → ∀ lv : Int, lv ≤ ro.length → closeTo lv (ro1 ++ ro) last1 = closeTo lv ro last
  | [], ro, last1, last, h, lv, hl => by
    rw [List.nil_append, closeTo_same last1 rfl] at h
    simp only [Option.some.injEq, Prod.mk.injEq, true_and] at h
    rw [h, List.nil_append]
  | t :: ro1, ro, last1, last, h, lv, hl => by
    simp only [List.cons_append, closeTo, List.length_append] at h ⊢
    rw [if_pos (by omega)] at h ⊢
    split at h
    · cases h
    · rename_i he
      rw [if_neg he]
      exact closeTo_trans ro1 ro t.en last h lv hl

theorem closeAll_of : ∀ (ro : List GRec) (last e : Int), closeTo 0 ro last = some ([], e) → closeAll ro last = true
  | [], _, _, _ => rfl
  | t :: ro, last, e, h => by
    simp only [closeTo] at h
    rw [if_pos (by omega)] at h
    split at h
    · cases h
    · rename_i he
      simp only [closeAll, if_neg he]
      exact closeAll_of ro t.en e h

/-- Where nestFrom is: closing down to a level leaves ro, and this last number. -/
structure AtN (lv : Int) (ro0 : List GRec) (last0 : Int) (ro : List GRec) (last : Int) : Prop where
  cl : closeTo lv ro0 last0 = some (ro, last)
  len : (ro.length : Int) = lv
  le : lv ≤ ro0.length

section
variable {φ : Int → Int} (hφ : Incr φ) {gap : Int} (hg : 1 ≤ gap)
include hφ hg

mutual
theorem nestV : ∀ (g : GVal) (lv : Int) (nm : Bool) (name : ByteArray) (now : Int) (k : Nat) (ro0 ro : List GRec) (last0 last : Int) (rest : List GRec), AtN lv ro0 last0 ro last → 0 ≤ lv → decide (lv = 0) = decide ((k : Int) = 0) → 0 ≤ now → last < φ (now + gap) →
    ∃ ro1 last1, AtN lv ro1 last1 ro (φ (shredV gap g lv nm name now).2) ∧ nestFrom k ro0 last0 ((shredV gap g lv nm name now).1.map (stE φ) ++ rest) = nestFrom (k + (shredV gap g lv nm name now).1.length) ro1 last1 rest
  | .mk kd b n s l ks vs, lv, nm, name, now, k, ro0, ro, last0, last, rest, hA, h0, hk, hn, hl => by
    simp only [shredV, List.map_cons, List.map_append, List.cons_append, List.append_assoc, nestFrom, stE, List.length_cons, List.length_append]
    have h1 := (shredL_len gap l (lv + 1) (now + gap)).2
    have h2 := (shredM_len gap vs ks (lv + 1) (shredL gap l (lv + 1) (now + gap)).2).2
    have e1 : 0 ≤ 2 * gap * ((shredL gap l (lv + 1) (now + gap)).1.length : Int) := Int.mul_nonneg (by omega) (by omega)
    have e2 : 0 ≤ 2 * gap * ((shredM gap vs ks (lv + 1) (shredL gap l (lv + 1) (now + gap)).2).1.length : Int) := Int.mul_nonneg (by omega) (by omega)
    have hlen := hA.len
    have hle := hA.le
    rw [if_neg (by rw [hk]; simp; omega), hA.cl]
    simp only []
    rw [if_neg (by omega)]
    generalize hr0 : (⟨φ (now + gap), φ ((shredM gap vs ks (lv + 1) (shredL gap l (lv + 1) (now + gap)).2).2 + gap), lv, kd, nm, name, b, n, s⟩ : GRec) = r0
    have hst : r0.st = φ (now + gap) := by rw [← hr0]
    have hen : r0.en = φ ((shredM gap vs ks (lv + 1) (shredL gap l (lv + 1) (now + gap)).2).2 + gap) := by rw [← hr0]
    obtain ⟨ro1, last1, last2, hA1, hl2, he1⟩ := nestL l (lv + 1) (now + gap) (k + 1) (r0 :: ro) (r0 :: ro) (φ (now + gap)) (φ (now + gap)) ((shredM gap vs ks (lv + 1) (shredL gap l (lv + 1) (now + gap)).2).1.map (stE φ) ++ rest)
      ⟨closeTo_same _ (by simp only [List.length_cons]; omega), by simp only [List.length_cons]; omega, by simp only [List.length_cons]; omega⟩ (by omega) (Nat.succ_pos k) (by omega) (Int.le_refl _)
    obtain ⟨ro2, last3, last4, hA2, hl4, he2⟩ := nestM vs ks (lv + 1) (shredL gap l (lv + 1) (now + gap)).2 (k + 1 + (shredL gap l (lv + 1) (now + gap)).1.length) ro1 (r0 :: ro) last1 last2 rest hA1 (by omega) (by omega) (by omega) hl2
    refine ⟨ro2, last3, ⟨?_, hlen, by have := hA2.le; omega⟩, ?_⟩
    · obtain ⟨x, hx⟩ := closeTo_suffix _ _ _ _ hA2.cl
      have hx : ro2 = x ++ (r0 :: ro) := hx
      have hlr : (((r0 :: ro).length : Nat) : Int) = lv + 1 := hA2.len
      have hcl := hA2.cl
      rw [← hlr, hx] at hcl
      rw [hx, closeTo_trans x (r0 :: ro) last3 last4 hcl lv (by omega), closeTo, if_pos (by omega), if_neg, hen]
      · exact closeTo_same _ hlen
      · rw [hen]
        have := hφ (shredM gap vs ks (lv + 1) (shredL gap l (lv + 1) (now + gap)).2).2 ((shredM gap vs ks (lv + 1) (shredL gap l (lv + 1) (now + gap)).2).2 + gap) (by omega) (by omega)
        omega
    · rw [he1, he2]
      congr 1
      omega
theorem nestL : ∀ (gs : List GVal) (lv : Int) (now : Int) (k : Nat) (ro0 ro : List GRec) (last0 last : Int) (rest : List GRec), AtN lv ro0 last0 ro last → 1 ≤ lv → 0 < k → 0 ≤ now → last ≤ φ now →
    ∃ ro1 last1 last2, AtN lv ro1 last1 ro last2 ∧ last2 ≤ φ (shredL gap gs lv now).2 ∧ nestFrom k ro0 last0 ((shredL gap gs lv now).1.map (stE φ) ++ rest) = nestFrom (k + (shredL gap gs lv now).1.length) ro1 last1 rest
  | [], lv, now, k, ro0, ro, last0, last, rest, hA, h0, hk, hn, hl => ⟨ro0, last0, last, hA, hl, rfl⟩
  | g :: gs, lv, now, k, ro0, ro, last0, last, rest, hA, h0, hk, hn, hl => by
    simp only [shredL, List.map_append, List.append_assoc, List.length_append]
    have hinc := hφ now (now + gap) hn (by omega)
    obtain ⟨h1, h1'⟩ := shredV_len gap g lv false ⟨#[]⟩ now
    have e1 : 0 ≤ 2 * gap * ((shredV gap g lv false ⟨#[]⟩ now).1.length : Int) := Int.mul_nonneg (by omega) (by omega)
    obtain ⟨ro1, last1, hA1, he1⟩ := nestV g lv false ⟨#[]⟩ now k ro0 ro last0 last ((shredL gap gs lv (shredV gap g lv false ⟨#[]⟩ now).2).1.map (stE φ) ++ rest) hA (by omega) (by rw [decide_eq_false (by omega), decide_eq_false (by omega)]) hn (by omega)
    obtain ⟨ro2, last3, last4, hA2, hl4, he2⟩ := nestL gs lv (shredV gap g lv false ⟨#[]⟩ now).2 (k + (shredV gap g lv false ⟨#[]⟩ now).1.length) ro1 ro last1 _ rest hA1 h0 (by omega) (by omega) (Int.le_refl _)
    exact ⟨ro2, last3, last4, hA2, hl4, by rw [he1, he2, Nat.add_assoc]⟩
theorem nestM : ∀ (gs : List GVal) (ks : List ByteArray) (lv : Int) (now : Int) (k : Nat) (ro0 ro : List GRec) (last0 last : Int) (rest : List GRec), AtN lv ro0 last0 ro last → 1 ≤ lv → 0 < k → 0 ≤ now → last ≤ φ now →
    ∃ ro1 last1 last2, AtN lv ro1 last1 ro last2 ∧ last2 ≤ φ (shredM gap gs ks lv now).2 ∧ nestFrom k ro0 last0 ((shredM gap gs ks lv now).1.map (stE φ) ++ rest) = nestFrom (k + (shredM gap gs ks lv now).1.length) ro1 last1 rest
  | [], ks, lv, now, k, ro0, ro, last0, last, rest, hA, h0, hk, hn, hl => by simp only [shredM]; exact ⟨ro0, last0, last, hA, hl, rfl⟩
  | g :: gs, [], lv, now, k, ro0, ro, last0, last, rest, hA, h0, hk, hn, hl => by simp only [shredM]; exact ⟨ro0, last0, last, hA, hl, rfl⟩
  | g :: gs, nk :: ks, lv, now, k, ro0, ro, last0, last, rest, hA, h0, hk, hn, hl => by
    simp only [shredM, List.map_append, List.append_assoc, List.length_append]
    have hinc := hφ now (now + gap) hn (by omega)
    obtain ⟨h1, h1'⟩ := shredV_len gap g lv true nk now
    have e1 : 0 ≤ 2 * gap * ((shredV gap g lv true nk now).1.length : Int) := Int.mul_nonneg (by omega) (by omega)
    obtain ⟨ro1, last1, hA1, he1⟩ := nestV g lv true nk now k ro0 ro last0 last ((shredM gap gs ks lv (shredV gap g lv true nk now).2).1.map (stE φ) ++ rest) hA (by omega) (by rw [decide_eq_false (by omega), decide_eq_false (by omega)]) hn (by omega)
    obtain ⟨ro2, last3, last4, hA2, hl4, he2⟩ := nestM gs ks lv (shredV gap g lv true nk now).2 (k + (shredV gap g lv true nk now).1.length) ro1 ro last1 _ rest hA1 h0 (by omega) (by omega) (Int.le_refl _)
    exact ⟨ro2, last3, last4, hA2, hl4, by rw [he1, he2, Nat.add_assoc]⟩
end

end

/-! ### named -/

mutual
theorem namedV (φ : Int → Int) (gap : Int) : ∀ (g : GVal) (lv : Nat) (nm : Bool) (name : ByteArray) (now : Int) (op o : List Int) (rest : List GRec), kindOk g → op.take lv = o → lv ≤ op.length → nm = (o.getLast? == some 5) → (nm = false → name = ⟨#[]⟩) →
    ∃ op1, op1.take lv = o ∧ lv ≤ op1.length ∧ namedFrom op ((shredV gap g lv nm name now).1.map (stE φ) ++ rest) = namedFrom op1 rest
  | .mk kd b n s l ks vs, lv, nm, name, now, op, o, rest, hk, ho, hl, hnm, hna => by
    simp only [kindOk] at hk
    simp only [shredV, List.map_cons, List.map_append, List.cons_append, List.append_assoc, namedFrom, stE, Int.toNat_natCast, ho]
    have hc : ((nm != (o.getLast? == some 5)) || (!nm && !decide (name = ⟨#[]⟩))) = false := by
      rw [← hnm]
      cases nm with
      | true => simp
      | false => simp [hna rfl]
    rw [hc]
    simp only [Bool.false_eq_true, if_false]
    have hol : o.length = lv := by rw [← ho, List.length_take]; omega
    have hlast : (o ++ [kd]).getLast? = some kd := by simp
    have htk : (o ++ [kd]).take (lv + 1) = o ++ [kd] := List.take_of_length_le (by simp; omega)
    obtain ⟨op1, h1, h2, h3⟩ := namedL φ gap l (lv + 1) (now + gap) (o ++ [kd]) (o ++ [kd]) ((shredM gap vs ks ((lv : Int) + 1) (shredL gap l ((lv : Int) + 1) (now + gap)).2).1.map (stE φ) ++ rest) hk.2.2.1 htk (by simp; omega) (fun hne => by rw [hlast]; have := hk.1 hne; simp; exact this)
    obtain ⟨op2, h4, h5, h6⟩ := namedM φ gap vs ks (lv + 1) (shredL gap l ((lv : Int) + 1) (now + gap)).2 op1 (o ++ [kd]) rest hk.2.2.2 h1 h2 (fun hne => by rw [hlast]; have := hk.2.1 hne; simp; exact this)
    refine ⟨op2, ?_, by omega, ?_⟩
    · have : op2.take lv = (op2.take (lv + 1)).take lv := by rw [List.take_take]; congr 1; omega
      rw [this, h4, List.take_append_of_le_length (by omega), List.take_of_length_le (by omega)]
    · exact h3.trans h6
theorem namedL (φ : Int → Int) (gap : Int) : ∀ (gs : List GVal) (lv : Nat) (now : Int) (op o : List Int) (rest : List GRec), kindOks gs → op.take lv = o → lv ≤ op.length → (gs ≠ [] → (o.getLast? == some 5) = false) →
    ∃ op1, op1.take lv = o ∧ lv ≤ op1.length ∧ namedFrom op ((shredL gap gs lv now).1.map (stE φ) ++ rest) = namedFrom op1 rest
  | [], lv, now, op, o, rest, hk, ho, hl, hnm => ⟨op, ho, hl, rfl⟩
  | g :: gs, lv, now, op, o, rest, hk, ho, hl, hnm => by
    simp only [kindOks] at hk
    simp only [shredL, List.map_append, List.append_assoc]
    obtain ⟨op1, h1, h2, h3⟩ := namedV φ gap g lv false ⟨#[]⟩ now op o ((shredL gap gs lv (shredV gap g lv false ⟨#[]⟩ now).2).1.map (stE φ) ++ rest) hk.1 ho hl (hnm (by simp)).symm (fun _ => rfl)
    obtain ⟨op2, h4, h5, h6⟩ := namedL φ gap gs lv (shredV gap g lv false ⟨#[]⟩ now).2 op1 o rest hk.2 h1 h2 (fun _ => hnm (by simp))
    exact ⟨op2, h4, h5, h3.trans h6⟩
theorem namedM (φ : Int → Int) (gap : Int) : ∀ (gs : List GVal) (ks : List ByteArray) (lv : Nat) (now : Int) (op o : List Int) (rest : List GRec), kindOks gs → op.take lv = o → lv ≤ op.length → (gs ≠ [] → (o.getLast? == some 5) = true) →
    ∃ op1, op1.take lv = o ∧ lv ≤ op1.length ∧ namedFrom op ((shredM gap gs ks lv now).1.map (stE φ) ++ rest) = namedFrom op1 rest
  | [], ks, lv, now, op, o, rest, hk, ho, hl, hnm => by simp only [shredM]; exact ⟨op, ho, hl, rfl⟩
  | g :: gs, [], lv, now, op, o, rest, hk, ho, hl, hnm => by simp only [shredM]; exact ⟨op, ho, hl, rfl⟩
  | g :: gs, nk :: ks, lv, now, op, o, rest, hk, ho, hl, hnm => by
    simp only [kindOks] at hk
    simp only [shredM, List.map_append, List.append_assoc]
    obtain ⟨op1, h1, h2, h3⟩ := namedV φ gap g lv true nk now op o ((shredM gap gs ks lv (shredV gap g lv true nk now).2).1.map (stE φ) ++ rest) hk.1 ho hl (hnm (by simp)).symm (fun h => by cases h)
    obtain ⟨op2, h4, h5, h6⟩ := namedM φ gap gs ks lv (shredV gap g lv true nk now).2 op1 o rest hk.2 h1 h2 (fun _ => hnm (by simp))
    exact ⟨op2, h4, h5, h3.trans h6⟩
end

theorem named_shred (φ : Int → Int) (gap : Int) (g : GVal) (hk : kindOk g) : namedG ((shredV gap g 0 false emptyS 0).1.map (stE φ)) = true := by
  unfold namedG
  obtain ⟨op1, _, _, h⟩ := namedV φ gap g 0 false ⟨#[]⟩ 0 [] [] [] hk rfl (Nat.le_refl _) rfl (fun _ => rfl)
  rw [List.append_nil] at h
  exact h.trans rfl

/-! ### build -/

/-- What comes behind does not stand in what is at that level. -/
def behind (lv : Int) : List GRec → Prop
  | [] => True
  | r :: _ => r.lv ≤ lv

theorem behind.mono {lv lv' : Int} (h : lv ≤ lv') : ∀ {l : List GRec}, behind lv l → behind lv' l
  | [], _ => trivial
  | r :: _, hb => by simp only [behind] at hb ⊢; omega

theorem behindV (φ : Int → Int) (gap : Int) (g : GVal) (lv : Int) (nm : Bool) (name : ByteArray) (now : Int) (Y : List GRec) : behind lv ((shredV gap g lv nm name now).1.map (stE φ) ++ Y) := by
  rw [shredV_eq]
  exact Int.le_refl _
theorem behindL (φ : Int → Int) (gap : Int) (gs : List GVal) (lv : Int) (now : Int) (Y : List GRec) (h : behind lv Y) : behind lv ((shredL gap gs lv now).1.map (stE φ) ++ Y) := by
  cases gs with
  | nil => exact h
  | cons g gs =>
    simp only [shredL, List.map_append, List.append_assoc]
    exact behindV φ gap g lv _ _ now _
theorem behindM (φ : Int → Int) (gap : Int) (gs : List GVal) (ks : List ByteArray) (lv : Int) (now : Int) (Y : List GRec) (h : behind lv Y) : behind lv ((shredM gap gs ks lv now).1.map (stE φ) ++ Y) := by
  cases gs with
  | nil => simp only [shredM]; exact h
  | cons g gs =>
    cases ks with
    | nil => simp only [shredM]; exact h
    | cons k ks =>
      simp only [shredM, List.map_append, List.append_assoc]
      exact behindV φ gap g lv _ _ now _

theorem kids_step (φ : Int → Int) (gap : Int) (g : GVal) (lv : Int) (nm : Bool) (name : ByteArray) (now : Int) (n : Nat) (X : List GRec) (h : buildN n ((shredV gap g (lv + 1) nm name now).1.map (stE φ) ++ X) = (g, X)) :
    kidsN (n + 1) lv ((shredV gap g (lv + 1) nm name now).1.map (stE φ) ++ X) = if nm then ⟨(kidsN n lv X).ls, name :: (kidsN n lv X).ks, g :: (kidsN n lv X).vs, (kidsN n lv X).rest⟩ else ⟨g :: (kidsN n lv X).ls, (kidsN n lv X).ks, (kidsN n lv X).vs, (kidsN n lv X).rest⟩ := by
  rw [shredV_eq] at h ⊢
  simp only [List.map_cons, List.cons_append] at h ⊢
  rw [kidsN, h, if_pos (by simp only [stE]; omega)]
  rfl

mutual
theorem buildV (φ : Int → Int) (gap : Int) : ∀ (g : GVal) (lv : Int) (nm : Bool) (name : ByteArray) (now : Int) (n : Nat) (rest : List GRec), g.wf → behind lv rest → 2 * (shredV gap g lv nm name now).1.length ≤ n →
    buildN n ((shredV gap g lv nm name now).1.map (stE φ) ++ rest) = (g, rest)
  | .mk kd b n s l ks vs, lv, nm, name, now, m, rest, hw, hb, hm => by
    simp only [GVal.wf] at hw
    simp only [shredV, List.length_cons, List.length_append] at hm
    obtain ⟨m, rfl⟩ : ∃ m', m = m' + 1 := ⟨m - 1, by omega⟩
    simp only [shredV, List.map_cons, List.map_append, List.cons_append, List.append_assoc, buildN, stE]
    rw [kidsL φ gap l lv (now + gap) m _ ⟨[], ks, vs, rest⟩ (2 * (shredM gap vs ks (lv + 1) (shredL gap l (lv + 1) (now + gap)).2).1.length + 1) (by omega) hw.2.1 (fun m' hm' => kidsM φ gap vs ks lv (shredL gap l (lv + 1) (now + gap)).2 m' rest hw.2.2 hw.1 hb hm') (behindM φ gap vs ks (lv + 1) _ _ (hb.mono (by omega))) (by omega)]
    simp
theorem kidsL (φ : Int → Int) (gap : Int) : ∀ (gs : List GVal) (lv : Int) (now : Int) (n : Nat) (T : List GRec) (K : Kids) (c : Nat), 1 ≤ c → GVal.wfs gs → (∀ m, c ≤ m → kidsN m lv T = K) → behind (lv + 1) T →
    2 * (shredL gap gs (lv + 1) now).1.length + c ≤ n → kidsN n lv ((shredL gap gs (lv + 1) now).1.map (stE φ) ++ T) = ⟨gs ++ K.ls, K.ks, K.vs, K.rest⟩
  | [], lv, now, n, T, K, c, hc, hw, hT, hb, hn2 => by
    simp only [shredL, List.map_nil, List.nil_append, List.length_nil] at hn2 ⊢
    exact hT n (by omega)
  | g :: gs, lv, now, n, T, K, c, hc, hw, hT, hb, hn2 => by
    simp only [GVal.wfs] at hw
    simp only [shredL, List.map_append, List.append_assoc, List.length_append] at hn2 ⊢
    have hpos : 0 < (shredV gap g (lv + 1) false ⟨#[]⟩ now).1.length := by rw [shredV_eq]; simp
    obtain ⟨n, rfl⟩ : ∃ m', n = m' + 1 := ⟨n - 1, by omega⟩
    have hB := buildV φ gap g (lv + 1) false ⟨#[]⟩ now n ((shredL gap gs (lv + 1) (shredV gap g (lv + 1) false ⟨#[]⟩ now).2).1.map (stE φ) ++ T) hw.1 (behindL φ gap gs (lv + 1) _ _ hb) (by omega)
    rw [kids_step φ gap g lv false ⟨#[]⟩ now n _ hB, kidsL φ gap gs lv (shredV gap g (lv + 1) false ⟨#[]⟩ now).2 n T K c hc hw.2 hT hb (by omega)]
    rfl
theorem kidsM (φ : Int → Int) (gap : Int) : ∀ (vs : List GVal) (ks : List ByteArray) (lv : Int) (now : Int) (n : Nat) (rest : List GRec), GVal.wfs vs → ks.length = vs.length → behind lv rest → 2 * (shredM gap vs ks (lv + 1) now).1.length + 1 ≤ n →
    kidsN n lv ((shredM gap vs ks (lv + 1) now).1.map (stE φ) ++ rest) = ⟨[], ks, vs, rest⟩
  | [], ks, lv, now, n, rest, hw, hk, hb, hn => by
    have hk0 : ks = [] := List.eq_nil_of_length_eq_zero hk
    subst hk0
    simp only [shredM, List.map_nil, List.nil_append, List.length_nil] at hn ⊢
    obtain ⟨n, rfl⟩ : ∃ m', n = m' + 1 := ⟨n - 1, by omega⟩
    cases rest with
    | nil => rfl
    | cons r rest =>
      simp only [behind] at hb
      rw [kidsN, if_neg (by omega)]
  | g :: gs, [], lv, now, n, rest, hw, hk, hb, hn => by simp at hk
  | g :: gs, nk :: ks, lv, now, n, rest, hw, hk, hb, hn => by
    simp only [GVal.wfs] at hw
    simp only [shredM, List.map_append, List.append_assoc, List.length_append] at hn ⊢
    have hpos : 0 < (shredV gap g (lv + 1) true nk now).1.length := by rw [shredV_eq]; simp
    obtain ⟨n, rfl⟩ : ∃ m', n = m' + 1 := ⟨n - 1, by omega⟩
    have hB := buildV φ gap g (lv + 1) true nk now n ((shredM gap gs ks (lv + 1) (shredV gap g (lv + 1) true nk now).2).1.map (stE φ) ++ rest) hw.1 (behindM φ gap gs ks (lv + 1) _ _ (hb.mono (by omega))) (by omega)
    rw [kids_step φ gap g lv true nk now n _ hB, kidsM φ gap gs ks lv (shredV gap g (lv + 1) true nk now).2 n rest hw.2 (by simpa using hk) hb (by omega)]
    rfl
end

theorem build_shred (φ : Int → Int) (gap : Int) (g : GVal) (nm : Bool) (name : ByteArray) (now : Int) (hw : g.wf) : buildG ((shredV gap g 0 nm name now).1.map (stE φ)) = (g, []) := by
  unfold buildG
  have := buildV φ gap g 0 nm name now (enough ((shredV gap g 0 nm name now).1.map (stE φ))) [] hw trivial (by unfold enough; rw [List.length_map]; omega)
  rw [List.append_nil] at this
  exact this

end Go.Sy
namespace Go.Sy
open Go.Proofs

/-! ### value.Count -/

mutual
/-- How many values. -/
def cntV : GVal → Nat
  | .mk _ _ _ _ l _ vs => 1 + (cntL l + cntL vs)
def cntL : List GVal → Nat
  | [] => 0
  | g :: gs => cntV g + cntL gs
end

theorem cntV_eq (g : GVal) : cntV g = 1 + (cntL g.l + cntL g.vs) := by cases g; rw [cntV]; rfl

theorem cntL_append : ∀ a b : List GVal, cntL (a ++ b) = cntL a + cntL b
  | [], b => by simp [cntL]
  | g :: a, b => by simp only [List.cons_append, cntL, cntL_append a b]; omega

mutual
theorem cntV_le : ∀ g : GVal, cntV g ≤ g.weight
  | .mk k b n s l ks vs => by
    simp only [cntV, GVal.weight]
    have := cntL_le l
    have := cntL_le vs
    omega
theorem cntL_le : ∀ gs : List GVal, cntL gs ≤ GVal.weights gs
  | [] => by simp [cntL]
  | g :: gs => by
    simp only [cntL, GVal.weights]
    have := cntV_le g
    have := cntL_le gs
    omega
end

mutual
/-- As many as the records. -/
theorem shredV_cnt (gap : Int) : ∀ (g : GVal) (lv : Int) (nm : Bool) (name : ByteArray) (now : Int), g.wf → (shredV gap g lv nm name now).1.length = cntV g
  | .mk k b n s l ks vs, lv, nm, name, now, h => by
    simp only [GVal.wf] at h
    simp only [shredV, List.length_cons, List.length_append, cntV, shredL_cnt gap l _ _ h.2.1, shredM_cnt gap vs ks _ _ h.1 h.2.2]
    omega
theorem shredL_cnt (gap : Int) : ∀ (gs : List GVal) (lv now : Int), GVal.wfs gs → (shredL gap gs lv now).1.length = cntL gs
  | [], lv, now, _ => by simp [shredL, cntL]
  | g :: gs, lv, now, h => by
    simp only [GVal.wfs] at h
    simp only [shredL, List.length_append, cntL, shredV_cnt gap g _ _ _ _ h.1, shredL_cnt gap gs _ _ h.2]
theorem shredM_cnt (gap : Int) : ∀ (gs : List GVal) (ks : List ByteArray) (lv now : Int), ks.length = gs.length → GVal.wfs gs → (shredM gap gs ks lv now).1.length = cntL gs
  | [], ks, lv, now, _, _ => by simp [shredM, cntL]
  | g :: gs, [], lv, now, h, _ => by simp at h
  | g :: gs, k :: ks, lv, now, h, h' => by
    simp only [GVal.wfs] at h'
    simp only [shredM, List.length_append, cntL, shredV_cnt gap g _ _ _ _ h'.1, shredM_cnt gap gs ks _ _ (by simpa using h) h'.2]
end

/-! ### ShredBack -/

end Go.Sy
namespace Go.Sy
open Go.Proofs

/-! ### last, kids -/

/-- How many records at the front begin before 'en'. -/
def runL (en : Int) : List GRec → Nat
  | [] => 0
  | r :: l => if r.st < en then runL en l + 1 else 0
def runK (L : List GRec) (en : Int) (k : Nat) : Nat := k + runL en (L.drop k)

theorem runL_le (en : Int) : ∀ l : List GRec, runL en l ≤ l.length
  | [] => Nat.le_refl _
  | r :: l => by
    have := runL_le en l
    simp only [runL, List.length_cons]
    split <;> omega
theorem runK_le (L : List GRec) (en : Int) {k : Nat} (h : k ≤ L.length) : runK L en k ≤ L.length := by
  unfold runK
  have := runL_le en (L.drop k)
  rw [List.length_drop] at this
  omega
theorem runK_ge (L : List GRec) (en : Int) (k : Nat) : k ≤ runK L en k := Nat.le_add_right _ _
theorem runK_end (L : List GRec) (en : Int) : runK L en L.length = L.length := by unfold runK; rw [List.drop_length]; rfl
theorem runK_step (L : List GRec) (en : Int) {k : Nat} (h : k < L.length) : runK L en k = if L[k].st < en then runK L en (k + 1) else k := by
  unfold runK
  rw [List.drop_eq_getElem_cons h, runL]
  split <;> omega

/-- The children that stand from k on, under what ends at en. -/
def kidsF (L : List GRec) (en : Int) : Nat → Nat → List Nat
  | 0, _ => []
  | n + 1, k => if h : k < L.length then (if L[k].st < en then k :: kidsF L en n (runK L L[k].en (k + 1)) else []) else []
def kidsG (L : List GRec) (i : Nat) : List Nat := kidsF L ((L[i]?.map GRec.en).getD 0) L.length (i + 1)

theorem kidsF_len (L : List GRec) (en : Int) : ∀ n k, (kidsF L en n k).length ≤ L.length - k
  | 0, _ => by simp [kidsF]
  | n + 1, k => by
    unfold kidsF
    split
    · rename_i h
      split
      · have := kidsF_len L en n (runK L L[k].en (k + 1))
        have := runK_ge L L[k].en (k + 1)
        rw [List.length_cons]
        omega
      · simp
    · simp

set_option maxRecDepth 100000 in
set_option maxHeartbeats 1000000 in
theorem last_c (σ : Snap) (L : List GRec) (hL : L.length ≤ mostLen) (ao : Option Addr) (cap : Nat) (H : SlAt σ ao L.length cap 11 (recRows L)) (i : Nat) (hi : i < L.length) :
    PlainS Tryd.prog 88 [.a (.v (.slice ao L.length cap)), .a (.v (.int .i64 i))] σ (fun v => v = .int .i64 ((runK L L[i].en (i + 1) : Nat) - 1)) := by
  simp only [mostLen] at hL
  have hrow := recRows_get (List.getElem?_eq_getElem hi)
  generalize L[i] = x at *
  refine enter_p Tryd.func88 rfl rfl (by (repeat' (first | exact trivial | constructor))) fun w => ?_
  (repeat (first | refine cj_seq ?_ | (refine cj_region ?_; refine oj_run TT rfl ?_) | refine oj_then ?_ | refine cj_block ?_ | (refine oj_add rfl rfl rfl rfl rfl rfl (by omega) ?_; refine oj_run TT rfl ?_)))
  refine cj_loop (fun _ => σ) (fun (k : Nat) => [(0, .a (.v (.slice ao L.length cap))), (1, .a (.v (.int .i64 i))), (5, .a (.v (.int .i64 (k : Int))))]) (fun _ => []) (fun _ => []) 0
    (fun k => k ≤ L.length ∧ runK L x.en k = runK L x.en (i + 1)) (fun k => L.length - k) (i + 1) ⟨hi, rfl⟩ rfl (by (repeat (first | exact trivial | refine And.intro rfl ?_))) (by (repeat (first | exact trivial | refine And.intro rfl ?_))) rfl (by (repeat' (first | exact trivial | constructor))) (by (repeat' exact trivial)) fun k ⟨hk, hp⟩ => ?_
  (repeat refine cj_seq ?_)
  refine cj_draw [(0,.pure),(1,.pure),(2,.pure),(3,.pure),(4,.pure),(5,.pure),(6,.pure),(7,.pure),(8,.pure),(9,.quiet),(10,.pure),(11,.pure),(12,.pure),(13,.pure),(14,.quiet),(15,.pure),(16,.pure)] mixed (by kernel_rfl) (oj_run TT rfl ?_)
  refine oj_split 12 rfl (fun h => ?_) (fun h => ?_)
  rotate_left
  · have hk0 : k = L.length := by have := of_decide_eq_false h; omega
    subst hk0
    rw [runK_end] at hp
    refine oj_run TT rfl ?_
    (repeat (first | refine cj_seq ?_ | (refine cj_region ?_; refine oj_run TT rfl ?_) | refine oj_then ?_ | refine cj_if_f rfl ?_ | refine cj_exit ?_ | refine cj_ret ?_ | refine nj_then ?_ | refine nj_then_exit ?_ | refine nj_block_out ?_ | (refine oj_minus rfl rfl rfl rfl rfl rfl (by omega) ?_; refine oj_run TT rfl ?_)))
    refine nj_ret TT rfl fun β w' _ _ => ?_
    rw [← hp]
    rfl
  have hkl : k < L.length := by have := of_decide_eq_true h; omega
  have hrow1 := recRows_get (List.getElem?_eq_getElem hkl)
  rw [runK_step L x.en hkl] at hp
  generalize L[k] = y at *
  refine oj_run TT rfl ?_
  refine oj_idx TT rfl rfl rfl rfl rfl rfl rfl rfl rfl H (by omega) hrow1 (oj_run TT rfl ?_)
  refine oj_idx TT rfl rfl rfl rfl rfl rfl rfl rfl rfl H (by omega) hrow (oj_run TT rfl ?_)
  (repeat refine oj_then ?_)
  refine cj_if rfl (fun h => ?_) (fun h => ?_)
  · rw [if_pos (of_decide_eq_true h)] at hp
    (repeat (first | (refine cj_region ?_; refine oj_run TT rfl ?_) | refine oj_nil ?_ | refine cj_skip ?_ | refine cj_block ?_ | refine nj_then ?_ | refine nj_block ?_ | (refine oj_add rfl rfl rfl rfl rfl rfl (by omega) ?_; refine oj_run TT rfl ?_)))
    refine nj_again (k + 1) ⟨hkl, hp⟩ (by omega) rfl (by (repeat (first | exact trivial | refine And.intro rfl ?_))) (by (repeat (first | exact trivial | refine And.intro rfl ?_))) rfl (by (repeat' (first | exact trivial | constructor))) (by (repeat' exact trivial))
  · rw [if_neg (of_decide_eq_false h)] at hp
    (repeat (first | refine cj_seq ?_ | (refine cj_region ?_; refine oj_run TT rfl ?_) | refine oj_then ?_ | refine cj_exit ?_ | refine cj_ret ?_ | refine nj_then ?_ | refine nj_then_exit ?_ | refine nj_block_out ?_ | (refine oj_minus rfl rfl rfl rfl rfl rfl (by omega) ?_; refine oj_run TT rfl ?_)))
    refine nj_ret TT rfl fun β w' _ _ => ?_
    rw [← hp]
    rfl

def intVs' (o : List Nat) : List Value := o.map fun (k : Nat) => Value.int .i64 k
def kidRows (o : List Nat) : List (List AT) := o.map fun (k : Nat) => [.v (.int .i64 k)]
def kdE (oo : Option Addr) (oc : Nat) (o : List Nat) : AE := ⟨oo, o.length, oc, 3, 1, intVs' o⟩

theorem kidRows_flat : ∀ o : List Nat, intVs' o = (kidRows o).flatten.map AT.val
  | [] => rfl
  | k :: o => by
    show Value.int .i64 k :: intVs' o = _
    rw [kidRows_flat o]
    rfl

structure KdS where
  k : Nat
  n : Nat
  o : List Nat
  oo : Option Addr
  oc : Nat

theorem kd_sealed {σ : Snap} {oo : Option Addr} {oc : Nat} {o : List Nat} (h : ArrSealed σ (kdE oo oc o)) (hc : o.length ≤ oc) : SlAt σ oo o.length oc 1 (kidRows o) :=
  h.sl (E := kdE oo oc o) (kidRows_flat o) (fun r hr => by
    obtain ⟨k, _, rfl⟩ := List.mem_map.1 hr
    exact ⟨rfl, fun c hc => by cases hc with | head => trivial | tail _ h => cases h⟩) (by simp [kidRows]) rfl hc

set_option maxRecDepth 100000 in
set_option maxHeartbeats 1000000 in
theorem kids_c (σ : Snap) (L : List GRec) (hL : L.length ≤ 100000) (ao : Option Addr) (cap : Nat) (H : SlAt σ ao L.length cap 11 (recRows L)) (i : Nat) (hi : i < L.length) :
    PureS Tryd.prog 77 [.a (.v (.slice ao L.length cap)), .a (.v (.int .i64 i))] σ (fun v σ' => ∃ oo oc, v = .slice oo (kidsG L i).length oc ∧ SlAt σ' oo (kidsG L i).length oc 1 (kidRows (kidsG L i))) := by
  have hrow := recRows_get (List.getElem?_eq_getElem hi)
  have hG : kidsG L i = kidsF L L[i].en L.length (i + 1) := by unfold kidsG; rw [List.getElem?_eq_getElem hi]; rfl
  rw [hG]
  generalize L[i] = x at *
  refine enter_s Tryd.func77 rfl rfl (by (repeat' (first | exact trivial | constructor))) fun w => ?_
  (repeat (first | refine cj_seq ?_ | (refine cj_region ?_; refine oj_run TT rfl ?_) | refine oj_then ?_ | refine cj_block ?_ | (refine oj_add rfl rfl rfl rfl rfl rfl (by omega) ?_; refine oj_run TT rfl ?_)))
  refine cj_nilarr 3 1 ?_
  skip
  refine cj_loop (fun _ => σ) (fun (s : KdS) => [(0, .a (.v (.slice ao L.length cap))), (1, .a (.v (.int .i64 i))), (5, .a (.v (.slice s.oo s.o.length s.oc))), (6, .a (.v (.int .i64 (s.k : Int))))]) (fun _ => []) (fun s => [kdE s.oo s.oc s.o]) 0
    (fun s => s.k ≤ L.length ∧ L.length < s.k + s.n ∧ s.o ++ kidsF L x.en s.n s.k = kidsF L x.en L.length (i + 1) ∧ s.o.length ≤ s.oc ∧ s.o.length ≤ s.k) (fun s => L.length - s.k) ⟨i + 1, L.length, [], none, 0⟩ ⟨hi, by dsimp only; omega, rfl, Nat.le_refl _, Nat.zero_le _⟩ rfl (by (repeat (first | exact trivial | refine And.intro rfl ?_))) (by (repeat (first | exact trivial | refine And.intro rfl ?_))) rfl (by (repeat' (first | exact trivial | constructor))) (by (repeat' exact trivial)) fun ⟨k, n, o, oo, oc⟩ ⟨hk, hkn, hp, hoc, hok⟩ => ?_
  dsimp only at hk hkn hp hoc hok ⊢
  obtain ⟨n, rfl⟩ : ∃ m, n = m + 1 := ⟨n - 1, by omega⟩
  (repeat refine cj_seq ?_)
  refine cj_draw [(0,.pure),(1,.pure),(2,.pure),(3,.pure),(4,.pure),(5,.pure),(6,.pure),(7,.pure),(8,.pure),(9,.quiet),(10,.pure),(11,.pure),(12,.pure),(13,.pure),(14,.quiet),(15,.pure),(16,.pure)] mixed (by kernel_rfl) (oj_run TT rfl ?_)
  have stop : ∀ e : kidsF L x.en (n + 1) k = [], o = kidsF L x.en L.length (i + 1) := fun e => by rw [e, List.append_nil] at hp; exact hp
  refine oj_split 13 rfl (fun h => ?_) (fun h => ?_)
  rotate_left
  · have hk0 : ¬ k < L.length := by have := of_decide_eq_false h; omega
    have e := stop (by rw [kidsF, dif_neg hk0])
    refine oj_run TT rfl ?_
    (repeat (first | refine cj_seq ?_ | (refine cj_region ?_; refine oj_run TT rfl ?_) | refine oj_then ?_ | refine cj_if_f rfl ?_ | refine cj_exit ?_ | refine cj_ret ?_ | refine nj_then ?_ | refine nj_then_exit ?_ | refine nj_block_out ?_))
    refine nj_seal 0 rfl rfl fun σ' hle' hS => ?_
    refine nj_ret TT rfl fun β w' _ _ => ?_
    rw [← e]
    exact ⟨oo, oc, rfl, kd_sealed hS hoc⟩
  have hkl : k < L.length := by have := of_decide_eq_true h; omega
  have hrow1 := recRows_get (List.getElem?_eq_getElem hkl)
  have hlast := last_c σ L (by simp only [mostLen]; omega) ao cap H k hkl
  rw [kidsF, dif_pos hkl] at hp stop
  generalize L[k] = y at *
  refine oj_run TT rfl ?_
  refine oj_idx TT rfl rfl rfl rfl rfl rfl rfl rfl rfl H (by omega) hrow1 (oj_run TT rfl ?_)
  refine oj_idx TT rfl rfl rfl rfl rfl rfl rfl rfl rfl H (by omega) hrow (oj_run TT rfl ?_)
  (repeat refine oj_then ?_)
  refine cj_if rfl (fun h => ?_) (fun h => ?_)
  rotate_left
  · have e := stop (if_neg (of_decide_eq_false h))
    (repeat (first | refine cj_seq ?_ | (refine cj_region ?_; refine oj_run TT rfl ?_) | refine oj_then ?_ | refine cj_exit ?_ | refine cj_ret ?_ | refine nj_then ?_ | refine nj_then_exit ?_ | refine nj_block_out ?_))
    refine nj_seal 0 rfl rfl fun σ' hle' hS => ?_
    refine nj_ret TT rfl fun β w' _ _ => ?_
    rw [← e]
    exact ⟨oo, oc, rfl, kd_sealed hS hoc⟩
  rw [if_pos (of_decide_eq_true h)] at hp
  have hr1 := runK_ge L y.en (k + 1)
  have hr2 := runK_le L y.en (k := k + 1) hkl
  (repeat (first | refine cj_seq ?_ | (refine cj_region ?_; refine oj_run TT rfl ?_) | refine cj_skip ?_ | refine cj_block ?_ | refine nj_then ?_))
  refine oj_append_lit TT 0 rfl rfl rfl rfl rfl rfl rfl rfl rfl rfl rfl rfl rfl rfl rfl rfl rfl rfl (by (repeat' (first | exact trivial | refine AllLt.of ?_ | constructor))) rfl (by omega) (by show (o.length + 1) * 8 ≤ _; omega) fun ao' cap' hcap' => oj_run TT rfl ?_
  obtain ⟨q, hq⟩ : ∃ q, runK L y.en (k + 1) = q + 1 := ⟨runK L y.en (k + 1) - 1, by omega⟩
  rw [hq] at hlast hp hr1 hr2
  have hq' : ((q + 1 : Nat) : Int) - 1 = q := by omega
  rw [hq'] at hlast
  (repeat (first | (refine cj_region ?_; refine oj_run TT rfl ?_) | refine oj_nil ?_ | refine nj_then ?_ | refine nj_block ?_))
  refine oj_callP rfl rfl rfl rfl rfl Tryd.call88 (by (repeat' (first | exact trivial | constructor))) hlast fun v hv => ⟨.a (.v (.int .i64 q)), trivial, hv.symm, ?_⟩
  refine oj_run TT rfl ?_
  (repeat (first | refine oj_nil ?_ | (refine oj_add rfl rfl rfl rfl rfl rfl (by omega) ?_; refine oj_run TT rfl ?_)))
  refine nj_again ⟨q + 1, n, o ++ [k], ao', cap'⟩ ⟨hr2, by dsimp only; omega, by dsimp only; rw [List.append_assoc]; exact hp, by dsimp only; rw [List.length_append]; exact hcap', by dsimp only; rw [List.length_append, List.length_singleton]; omega⟩ (by dsimp only; omega) rfl ?_ (by (repeat (first | exact trivial | refine And.intro rfl ?_))) ?_ (by (repeat' (first | exact trivial | constructor))) (by (repeat' exact trivial))
  · refine ⟨rfl, rfl, ?_, rfl, trivial⟩
    dsimp only
    rw [List.length_append]
    rfl
  · unfold kdE
    dsimp only
    rw [List.length_append]
    simp only [intVs', List.map_append]
    rfl

set_option maxRecDepth 100000 in
set_option maxHeartbeats 1000000 in
theorem Kids_c (σ : Snap) (L : List GRec) (R : RecsOk L) (ao : Option Addr) (cap : Nat) (H : SlAt σ ao L.length cap 11 (recRows L)) (i : Nat) (hi : i < L.length) (hs : soundG L = true) (hL : L.length ≤ 100000) :
    PureS Tryd.prog 26 [.a (.v (.slice ao L.length cap)), .a (.v (.int .i64 i))] σ (fun v σ' => ∃ oo oc, v = .slice oo (kidsG L i).length oc ∧ SlAt σ' oo (kidsG L i).length oc 1 (kidRows (kidsG L i))) := by
  have hat : atG L i = true := by
    unfold atG
    rw [hs]
    simp
    omega
  refine enter_s Tryd.func26 rfl rfl (by (repeat' (first | exact trivial | constructor))) fun w => ?_
  (repeat (first | refine cj_seq ?_ | (refine cj_region ?_; refine oj_run TT rfl ?_) | refine oj_then ?_))
  refine oj_callP rfl rfl rfl rfl rfl Tryd.call76 (by (repeat' (first | exact trivial | constructor))) (at_c σ L R ao cap H i) fun v hv => ⟨.a .tt, trivial, by rw [hv, hat]; rfl, ?_⟩
  refine oj_run TT rfl ?_
  (repeat (first | refine cj_seq ?_ | (refine cj_region ?_; refine oj_run TT rfl ?_) | refine oj_then ?_ | refine cj_if_f rfl ?_ | refine cj_skip ?_ | refine nj_then ?_))
  refine oj_callS rfl rfl rfl rfl rfl Tryd.call77 ⟨trivial, trivial, trivial⟩ (kids_c σ L hL ao cap H i hi) fun v σ1 hle ⟨oo, oc, hv, hS⟩ => ⟨.a (.v (.slice oo (kidsG L i).length oc)), trivial, hv.symm, ?_⟩
  refine oj_run TT rfl ?_
  (repeat (first | refine oj_then ?_ | refine cj_ret ?_))
  refine nj_ret TT rfl fun β w' _ _ => ?_
  exact ⟨oo, oc, rfl, hS⟩
end Go.Sy
/- Plain laws about the shred as a list: whose records stand under whose. -/
namespace Go.Sy

def se (r : GRec) : Int × Int := (r.st, r.en)
abbrev Sk := List (Int × Int)
def runP (en : Int) : Sk → Nat
  | [] => 0
  | x :: l => if x.1 < en then runP en l + 1 else 0
def kidsP (S : Sk) (en : Int) : Nat → Nat → List Nat
  | 0, _ => []
  | n + 1, k => match S[k]? with
    | none => []
    | some x => if x.1 < en then k :: kidsP S en n (k + 1 + runP x.2 (S.drop (k + 1))) else []
def kidsAt (S : Sk) (i : Nat) : List Nat := kidsP S ((S[i]?.map (·.2)).getD 0) S.length (i + 1)

theorem runL_se (en : Int) : ∀ l : List GRec, runL en l = runP en (l.map se)
  | [] => rfl
  | r :: l => by simp only [runL, List.map_cons, runP, runL_se en l, se]
theorem kidsF_se (L : List GRec) (en : Int) : ∀ n k, kidsF L en n k = kidsP (L.map se) en n k
  | 0, _ => rfl
  | n + 1, k => by
    unfold kidsF kidsP
    by_cases h : k < L.length
    · rw [dif_pos h, List.getElem?_map, List.getElem?_eq_getElem h]
      simp only [Option.map_some, se, runK, runL_se, List.map_drop, kidsF_se L en n]
    · rw [dif_neg h, List.getElem?_map, List.getElem?_eq_none (by omega)]
      rfl
theorem kidsG_se (L : List GRec) (i : Nat) : kidsG L i = kidsAt (L.map se) i := by
  unfold kidsG kidsAt
  rw [kidsF_se, List.length_map, List.getElem?_map, Option.map_map]
  rfl

mutual
/-- How far a value's numbers reach. -/
def wV (gap : Int) : GVal → Int
  | .mk _ _ _ _ l _ vs => gap + (wL gap l + wL gap vs) + gap
def wL (gap : Int) : List GVal → Int
  | [] => 0
  | g :: gs => wV gap g + wL gap gs
end
mutual
/-- A value's numbers. -/
def skV (gap : Int) : GVal → Int → Sk
  | .mk _ _ _ _ l _ vs, now => (now + gap, now + (gap + (wL gap l + wL gap vs) + gap)) :: (skL gap l (now + gap) ++ skL gap vs (now + gap + wL gap l))
def skL (gap : Int) : List GVal → Int → Sk
  | [], _ => []
  | g :: gs, now => skV gap g now ++ skL gap gs (now + wV gap g)
end

theorem wL_append (gap : Int) : ∀ a b : List GVal, wL gap (a ++ b) = wL gap a + wL gap b
  | [], b => by simp [wL]
  | g :: a, b => by simp only [List.cons_append, wL, wL_append gap a b]; omega
theorem skL_append (gap : Int) : ∀ (a b : List GVal) (now : Int), skL gap (a ++ b) now = skL gap a now ++ skL gap b (now + wL gap a)
  | [], b, now => by simp [skL, wL]
  | g :: a, b, now => by
    simp only [List.cons_append, skL, wL, skL_append gap a b, List.append_assoc]
    congr 3
    omega
theorem skV_eq (gap : Int) (g : GVal) (now : Int) : skV gap g now = (now + gap, now + wV gap g) :: skL gap (g.l ++ g.vs) (now + gap) := by
  cases g
  rw [skL_append]
  simp only [skV, wV, GVal.l, GVal.vs]
theorem wV_eq (gap : Int) (g : GVal) : wV gap g = gap + wL gap (g.l ++ g.vs) + gap := by
  cases g
  rw [wL_append]
  simp only [wV, GVal.l, GVal.vs]

mutual
theorem shredV_sk (gap : Int) : ∀ (g : GVal) (lv : Int) (nm : Bool) (name : ByteArray) (now : Int), g.wf → (shredV gap g lv nm name now).1.map se = skV gap g now ∧ (shredV gap g lv nm name now).2 = now + wV gap g
  | .mk k b n s l ks vs, lv, nm, name, now, h => by
    simp only [GVal.wf] at h
    obtain ⟨h1, h2⟩ := shredL_sk gap l (lv + 1) (now + gap) h.2.1
    obtain ⟨h3, h4⟩ := shredM_sk gap vs ks (lv + 1) (shredL gap l (lv + 1) (now + gap)).2 h.1 h.2.2
    rw [h2] at h3 h4
    simp only [shredV, skV, wV, List.map_cons, List.map_append, h2, h3, h4, h1, se]
    refine ⟨?_, by omega⟩
    congr 2
    omega
theorem shredL_sk (gap : Int) : ∀ (gs : List GVal) (lv now : Int), GVal.wfs gs → (shredL gap gs lv now).1.map se = skL gap gs now ∧ (shredL gap gs lv now).2 = now + wL gap gs
  | [], lv, now, _ => by simp [shredL, skL, wL]
  | g :: gs, lv, now, h => by
    simp only [GVal.wfs] at h
    obtain ⟨h1, h2⟩ := shredV_sk gap g lv false ⟨#[]⟩ now h.1
    obtain ⟨h3, h4⟩ := shredL_sk gap gs lv (shredV gap g lv false ⟨#[]⟩ now).2 h.2
    rw [h2] at h3 h4
    simp only [shredL, skL, wL, List.map_append, h1, h2, h3, h4]
    exact ⟨trivial, by omega⟩
theorem shredM_sk (gap : Int) : ∀ (gs : List GVal) (ks : List ByteArray) (lv now : Int), ks.length = gs.length → GVal.wfs gs → (shredM gap gs ks lv now).1.map se = skL gap gs now ∧ (shredM gap gs ks lv now).2 = now + wL gap gs
  | [], ks, lv, now, _, _ => by simp [shredM, skL, wL]
  | g :: gs, [], lv, now, h, _ => by simp at h
  | g :: gs, k :: ks, lv, now, h, h' => by
    simp only [GVal.wfs] at h'
    obtain ⟨h1, h2⟩ := shredV_sk gap g lv true k now h'.1
    obtain ⟨h3, h4⟩ := shredM_sk gap gs ks lv (shredV gap g lv true k now).2 (by simpa using h) h'.2
    rw [h2] at h3 h4
    simp only [shredM, skL, wL, List.map_append, h1, h2, h3, h4]
    exact ⟨trivial, by omega⟩
end

mutual
theorem wV_pos {gap : Int} (hg : 0 < gap) : ∀ g : GVal, 0 < wV gap g
  | .mk _ _ _ _ l _ vs => by
    simp only [wV]
    have := wL_nn hg l
    have := wL_nn hg vs
    omega
theorem wL_nn {gap : Int} (hg : 0 < gap) : ∀ gs : List GVal, 0 ≤ wL gap gs
  | [] => by simp [wL]
  | g :: gs => by
    simp only [wL]
    have := wV_pos hg g
    have := wL_nn hg gs
    omega
end

mutual
theorem skV_bd {gap : Int} (hg : 0 < gap) : ∀ (g : GVal) (now : Int), ∀ x ∈ skV gap g now, now < x.1 ∧ x.1 < x.2 ∧ x.2 ≤ now + wV gap g
  | .mk k b n s l ks vs, now, x, hx => by
    have h1 := wL_nn hg l
    have h2 := wL_nn hg vs
    simp only [skV, wV] at hx ⊢
    rcases List.mem_cons.1 hx with rfl | hx
    · dsimp only; omega
    rcases List.mem_append.1 hx with hx | hx
    · have := skL_bd hg l _ x hx; omega
    · have := skL_bd hg vs _ x hx; omega
theorem skL_bd {gap : Int} (hg : 0 < gap) : ∀ (gs : List GVal) (now : Int), ∀ x ∈ skL gap gs now, now < x.1 ∧ x.1 < x.2 ∧ x.2 ≤ now + wL gap gs
  | [], now, x, hx => by simp [skL] at hx
  | g :: gs, now, x, hx => by
    have h1 := wV_pos hg g
    have h2 := wL_nn hg gs
    simp only [skL, wL] at hx ⊢
    rcases List.mem_append.1 hx with hx | hx
    · have := skV_bd hg g _ x hx; omega
    · have := skL_bd hg gs _ x hx; omega
end

mutual
theorem skV_len (gap : Int) : ∀ (g : GVal) (now : Int), (skV gap g now).length = cntV g
  | .mk k b n s l ks vs, now => by
    simp only [skV, cntV, List.length_cons, List.length_append, skL_len gap l, skL_len gap vs]
    omega
theorem skL_len (gap : Int) : ∀ (gs : List GVal) (now : Int), (skL gap gs now).length = cntL gs
  | [], now => by simp [skL, cntL]
  | g :: gs, now => by simp only [skL, cntL, List.length_append, skV_len gap g, skL_len gap gs]
end

/-- What follows begins at 'en' or behind. -/
def front (en : Int) (rest : Sk) : Prop := ∀ x, rest.head? = some x → en ≤ x.1

theorem runP_block {en : Int} {rest : Sk} (hr : front en rest) : ∀ B : Sk, (∀ x ∈ B, x.1 < en) → runP en (B ++ rest) = B.length
  | [], _ => by
    cases rest with
    | nil => rfl
    | cons x l =>
      have := hr x rfl
      simp only [List.nil_append, runP, List.length_nil]
      rw [if_neg (by omega)]
  | x :: B, h => by
    simp only [List.cons_append, runP, List.length_cons]
    rw [if_pos (h x List.mem_cons_self), runP_block hr B fun y hy => h y (List.mem_cons_of_mem _ hy)]

def pos : List GVal → Nat → List Nat
  | [], _ => []
  | g :: gs, p => p :: pos gs (p + cntV g)

theorem drop_at {S : Sk} {p : Nat} {x : Int × Int} {T : Sk} (h : S.drop p = x :: T) : S[p]? = some x ∧ S.drop (p + 1) = T := by
  constructor
  · have : (S.drop p)[0]? = some x := by rw [h]; rfl
    simpa using this
  · rw [← List.drop_drop, h]
    rfl
theorem drop_blk {S B T : Sk} {p : Nat} (h : S.drop p = B ++ T) : S.drop (p + B.length) = T := by
  rw [← List.drop_drop, h, List.drop_left]

theorem cntV_pos (g : GVal) : 0 < cntV g := by rw [cntV_eq]; omega

theorem front_skL {gap : Int} (hg : 0 < gap) {en now : Int} {rest : Sk} (gs : List GVal) (hr : front en rest) (he : now + wL gap gs ≤ en) : front now (skL gap gs now ++ rest) := by
  intro x hx
  cases gs with
  | nil =>
    have := hr x (by simpa [skL] using hx)
    simp only [wL] at he
    omega
  | cons g gs =>
    simp only [skL, skV_eq, List.cons_append, List.head?_cons, Option.some.injEq] at hx
    subst hx
    dsimp only
    omega

theorem kidsP_pos {gap : Int} (hg : 0 < gap) {S : Sk} {en : Int} {rest : Sk} (hr : front en rest) : ∀ (gs : List GVal) (p : Nat) (now : Int) (n : Nat), S.drop p = skL gap gs now ++ rest → now + wL gap gs ≤ en → gs.length < n →
    kidsP S en n p = pos gs p
  | [], p, now, n, h, he, hn => by
    obtain ⟨n, rfl⟩ : ∃ m, n = m + 1 := ⟨n - 1, by simp at hn; omega⟩
    unfold kidsP pos
    cases hx : S[p]? with
    | none => rfl
    | some x =>
      have h0 : (S.drop p)[0]? = some x := by simpa using hx
      rw [h] at h0
      have := hr x (by rw [List.head?_eq_getElem?]; simpa [skL] using h0)
      dsimp only
      rw [if_neg (by omega)]
  | g :: gs, p, now, n, h, he, hn => by
    obtain ⟨n, rfl⟩ : ∃ m, n = m + 1 := ⟨n - 1, by omega⟩
    have hw := wL_nn hg gs
    have hlen := skV_len gap g now
    simp only [skL, wL, List.append_assoc] at h he
    have h3 := drop_blk h
    have hbd := skV_bd hg g now
    rw [skV_eq] at h hlen h3 hbd
    rw [List.cons_append] at h
    obtain ⟨h1, h2⟩ := drop_at h
    have hx := hbd _ List.mem_cons_self
    dsimp only at hx
    rw [List.length_cons] at hlen
    have hf : front (now + wV gap g) (skL gap gs (now + wV gap g) ++ rest) := front_skL hg gs hr (by omega)
    unfold kidsP pos
    rw [h1]
    dsimp only
    rw [if_pos (by omega), h2, runP_block hf _ (fun y hy => by have := hbd y (List.mem_cons_of_mem _ hy); omega), show p + 1 + (skL gap (g.l ++ g.vs) (now + gap)).length = p + cntV g by omega,
      kidsP_pos hg hr gs (p + cntV g) (now + wV gap g) n (by rw [← h3, List.length_cons, hlen]) (by omega) (by simp at hn; omega)]

theorem pos_cnt (gs : List GVal) : gs.length ≤ cntL gs := by
  induction gs with
  | nil => simp
  | cons g gs ih =>
    have := cntV_pos g
    simp only [List.length_cons, cntL]
    omega

def chain (S : Sk) (en : Int) : Int → List Nat → Prop
  | _, [] => True
  | last, m :: ms => ∃ x, S[m]? = some x ∧ last < x.1 ∧ x.2 < en ∧ chain S en x.2 ms

end Go.Sy
namespace Go.Sy
open Go.Proofs

/-! ### slices.Index -/

def idxF (v : Nat) : List Nat → Nat → Int
  | [], _ => -1
  | m :: ms, k => if v = m then k else idxF v ms (k + 1)

set_option maxRecDepth 100000 in
set_option maxHeartbeats 1000000 in
theorem Index_c (σ : Snap) (ks : List Nat) (hL : ks.length ≤ 100000) (oo : Option Addr) (oc : Nat) (HK : SlAt σ oo ks.length oc 1 (kidRows ks)) (v : Nat) :
    PlainS Tryd.prog 79 [.a (.v (.slice oo ks.length oc)), .a (.v (.int .i64 v))] σ (fun x => x = .int .i64 (idxF v ks 0)) := by
  refine enter_p Tryd.func79 rfl rfl (by (repeat' (first | exact trivial | constructor))) fun w => ?_
  (repeat (first | refine cj_seq ?_ | (refine cj_region ?_; refine oj_run TT rfl ?_) | refine oj_then ?_ | refine cj_block ?_))
  refine cj_loop (fun (_ : Nat) => σ) (fun k => [(0, .a (.v (.slice oo ks.length oc))), (1, .a (.v (.int .i64 v))), (7, .a (.v (.int .i64 ks.length))), (8, .a (.v (.int .i64 k)))]) (fun _ => []) (fun _ => []) 0
    (fun k => k ≤ ks.length ∧ idxF v (ks.drop k) k = idxF v ks 0) (fun k => ks.length - k) 0 ⟨Nat.zero_le _, rfl⟩ rfl (by (repeat (first | exact trivial | refine And.intro rfl ?_))) (by (repeat (first | exact trivial | refine And.intro rfl ?_))) rfl (by (repeat' (first | exact trivial | constructor))) (by (repeat' exact trivial)) fun k ⟨hk, hp⟩ => ?_
  (repeat (first | refine cj_seq ?_ | (refine cj_region ?_; refine oj_run TT rfl ?_) | refine oj_then ?_))
  refine cj_if rfl (fun h => ?_) (fun h => ?_)
  rotate_left
  · have hk0 : k = ks.length := by have := of_decide_eq_false h; omega
    subst hk0
    rw [List.drop_length] at hp
    (repeat (first | refine cj_seq ?_ | (refine cj_region ?_; refine oj_run TT rfl ?_) | refine oj_then ?_ | refine cj_exit ?_ | refine cj_ret ?_ | refine nj_then ?_ | refine nj_then_exit ?_ | refine nj_block_out ?_))
    refine nj_ret TT rfl fun β w' _ _ => ?_
    rw [← hp]
    rfl
  have hkl : k < ks.length := by have := of_decide_eq_true h; omega
  have hkr : (kidRows ks)[k]? = some [.v (.int .i64 (ks[k] : Nat))] := by unfold kidRows; rw [List.getElem?_map, List.getElem?_eq_getElem hkl]; rfl
  rw [List.drop_eq_getElem_cons hkl, idxF] at hp
  generalize ks[k] = m at *
  (repeat (first | refine cj_seq ?_ | (refine cj_region ?_; refine oj_run TT rfl ?_) | refine oj_then ?_ | refine cj_skip ?_ | refine cj_block ?_ | refine nj_then ?_))
  refine oj_idx TT rfl rfl rfl rfl rfl rfl rfl rfl rfl HK (by omega) hkr (oj_run TT rfl ?_)
  (repeat refine oj_then ?_)
  refine cj_if rfl (fun h => ?_) (fun h => ?_)
  · have h : (v : Int) = m := of_decide_eq_true h
    rw [if_pos (by omega)] at hp
    (repeat (first | refine cj_seq ?_ | (refine cj_region ?_; refine oj_run TT rfl ?_) | refine oj_then ?_ | refine cj_ret ?_ | refine nj_then_ret ?_ | refine nj_block_ret ?_))
    refine nj_ret TT rfl fun β w' _ _ => ?_
    rw [← hp]
    rfl
  · have h : ¬ (v : Int) = m := of_decide_eq_false h
    rw [if_neg (by omega)] at hp
    (repeat (first | (refine cj_region ?_; refine oj_run TT rfl ?_) | refine oj_nil ?_ | refine cj_skip ?_ | refine nj_then ?_ | refine nj_block ?_ | (refine oj_add rfl rfl rfl rfl rfl rfl (by omega) ?_; refine oj_run TT rfl ?_)))
    refine nj_again (k + 1) ⟨hkl, hp⟩ (by omega) rfl (by (repeat (first | exact trivial | refine And.intro rfl ?_))) (by (repeat (first | exact trivial | refine And.intro rfl ?_))) rfl (by (repeat' (first | exact trivial | constructor))) (by (repeat' exact trivial))

/-! ### SameSteps -/

structure GStep where
  key : ByteArray
  at_ : Int
  named : Bool
deriving DecidableEq

def stepCells (s : GStep) : List AT := [.v (.string s.key), .v (.int .i64 s.at_), .b s.named]
def stepRows (l : List GStep) : List (List AT) := l.map stepCells
theorem stepRows_get {l : List GStep} {i : Nat} {s : GStep} (h : l[i]? = some s) : (stepRows l)[i]? = some (stepCells s) := by unfold stepRows; rw [List.getElem?_map, h]; rfl

def stepEq (x y : GStep) : Bool := !(x.named != y.named) && !(x.named && !decide (x.key = y.key)) && !(!x.named && !decide (x.at_ = y.at_))
def sameG : List GStep → List GStep → Bool
  | [], [] => true
  | x :: a, y :: b => stepEq x y && sameG a b
  | _, _ => false

theorem sameG_len : ∀ {a b : List GStep}, a.length ≠ b.length → sameG a b = false
  | [], [], h => absurd rfl h
  | _ :: a, _ :: b, h => by rw [sameG, sameG_len (a := a) (b := b) (by simpa using h), Bool.and_false]
  | [], _ :: _, _ => rfl
  | _ :: _, [], _ => rfl

set_option maxRecDepth 100000 in
set_option maxHeartbeats 1000000 in
theorem SameSteps_c (σ : Snap) (a b : List GStep) (ha : a.length ≤ 100000) (_ : b.length ≤ 100000) (ao bo : Option Addr) (ac bc : Nat) (HA : SlAt σ ao a.length ac 3 (stepRows a)) (HB : SlAt σ bo b.length bc 3 (stepRows b)) :
    PlainS Tryd.prog 28 [.a (.v (.slice ao a.length ac)), .a (.v (.slice bo b.length bc))] σ (fun x => x = .bool (sameG a b)) := by
  refine enter_p Tryd.func28 rfl rfl (by (repeat' (first | exact trivial | constructor))) fun w => ?_
  (repeat (first | refine cj_seq ?_ | (refine cj_region ?_; refine oj_run TT rfl ?_) | refine oj_then ?_))
  refine cj_if rfl (fun h => ?_) (fun h => ?_)
  · have h : ¬ (a.length : Int) = b.length := by simpa using h
    rw [sameG_len (by omega)]
    (repeat (first | refine cj_seq ?_ | (refine cj_region ?_; refine oj_run TT rfl ?_) | refine oj_then ?_ | refine cj_ret ?_ | refine nj_then_ret ?_))
    refine nj_ret TT rfl fun β w' _ _ => ?_
    rfl
  have hlen : a.length = b.length := by
    have h : (a.length : Int) = b.length := by simpa using h
    omega
  (repeat (first | refine cj_seq ?_ | (refine cj_region ?_; refine oj_run TT rfl ?_) | refine oj_then ?_ | refine cj_skip ?_ | refine cj_block ?_ | refine nj_then ?_))
  refine cj_loop (fun (_ : Nat) => σ) (fun k => [(0, .a (.v (.slice ao a.length ac))), (1, .a (.v (.slice bo b.length bc))), (5, .a (.v (.int .i64 k)))]) (fun _ => []) (fun _ => []) 0
    (fun k => k ≤ a.length ∧ sameG (a.drop k) (b.drop k) = sameG a b) (fun k => a.length - k) 0 ⟨Nat.zero_le _, rfl⟩ rfl (by (repeat (first | exact trivial | refine And.intro rfl ?_))) (by (repeat (first | exact trivial | refine And.intro rfl ?_))) rfl (by (repeat' (first | exact trivial | constructor))) (by (repeat' exact trivial)) fun k ⟨hk, hp⟩ => ?_
  (repeat (first | refine cj_seq ?_ | (refine cj_region ?_; refine oj_run TT rfl ?_) | refine oj_then ?_))
  refine cj_if rfl (fun h => ?_) (fun h => ?_)
  rotate_left
  · have hk0 : k = a.length := by have := of_decide_eq_false h; omega
    subst hk0
    rw [List.drop_length, hlen, List.drop_length] at hp
    (repeat (first | refine cj_seq ?_ | (refine cj_region ?_; refine oj_run TT rfl ?_) | refine oj_then ?_ | refine cj_exit ?_ | refine cj_ret ?_ | refine nj_then ?_ | refine nj_then_exit ?_ | refine nj_block_out ?_))
    refine nj_ret TT rfl fun β w' _ _ => ?_
    rw [← hp]
    rfl
  have hkl : k < a.length := by have := of_decide_eq_true h; omega
  have hkl' : k < b.length := by omega
  have hra := stepRows_get (List.getElem?_eq_getElem hkl)
  have hrb := stepRows_get (List.getElem?_eq_getElem hkl')
  rw [List.drop_eq_getElem_cons hkl, List.drop_eq_getElem_cons hkl', sameG] at hp
  generalize a[k] = x at *
  generalize b[k] = y at *
  (repeat (first | refine cj_seq ?_ | refine cj_skip ?_ | refine cj_block ?_ | refine nj_then ?_))
  refine cj_draw [(0,.pure),(1,.pure),(2,.pure),(3,.pure),(4,.quiet),(5,.pure),(6,.pure),(7,.pure),(8,.pure),(9,.quiet),(10,.pure),(11,.pure),(12,.pure),(13,.pure),(14,.pure),(15,.pure),(16,.quiet),(17,.pure),(18,.pure),(19,.pure),(20,.pure),(21,.pure),(22,.quiet),(23,.pure),(24,.pure),(25,.pure),(26,.pure),(27,.quiet),(28,.pure),(29,.pure),(30,.pure),(31,.pure),(32,.pure),(33,.pure),(34,.pure),(35,.pure),(36,.quiet),(37,.pure),(38,.pure),(39,.pure),(40,.pure),(41,.pure),(42,.pure),(43,.quiet),(44,.pure),(45,.pure),(46,.pure),(47,.pure),(48,.quiet),(49,.pure),(50,.pure),(51,.pure)] mixed (by kernel_rfl) (oj_run TT rfl ?_)
  refine oj_idx TT rfl rfl rfl rfl rfl rfl rfl rfl rfl HA (by omega) hra (oj_run TT rfl ?_)
  refine oj_idx TT rfl rfl rfl rfl rfl rfl rfl rfl rfl HB (by omega) hrb (oj_run TT rfl ?_)
  skip
  refine oj_split 28 rfl (fun h => ?_) (fun h1 => ?_)
  · have h : (x.named != y.named) = true := h
    refine oj_run TT rfl ?_
    (repeat (first | refine cj_seq ?_ | (refine cj_region ?_; refine oj_run TT rfl ?_) | refine oj_then ?_ | refine cj_if_t rfl ?_ | refine cj_ret ?_ | refine nj_then_ret ?_ | refine nj_block_ret ?_))
    refine nj_ret TT rfl fun β w' _ _ => ?_
    rw [← hp]
    unfold stepEq
    rw [h]
    rfl
  have h1 : (x.named != y.named) = false := h1
  refine oj_run TT rfl ?_
  refine oj_idx TT rfl rfl rfl rfl rfl rfl rfl rfl rfl HA (by omega) hra (oj_run TT rfl ?_)
  skip
  refine oj_split 34 rfl (fun h2 => ?_) (fun h2 => ?_)
  · have h2 : x.named = true := h2
    refine oj_run TT rfl ?_
    refine oj_idx TT rfl rfl rfl rfl rfl rfl rfl rfl rfl HA (by omega) hra (oj_run TT rfl ?_)
    refine oj_idx TT rfl rfl rfl rfl rfl rfl rfl rfl rfl HB (by omega) hrb (oj_run TT rfl ?_)
    skip
    refine oj_split 48 rfl (fun h3 => ?_) (fun h3 => ?_)
    · have h3 : (!decide (x.key = y.key)) = true := h3
      refine oj_run TT rfl ?_
      (repeat (first | refine cj_seq ?_ | (refine cj_region ?_; refine oj_run TT rfl ?_) | refine oj_then ?_ | refine cj_if_t rfl ?_ | refine cj_ret ?_ | refine nj_then_ret ?_ | refine nj_block_ret ?_))
      refine nj_ret TT rfl fun β w' _ _ => ?_
      rw [← hp]
      unfold stepEq
      rw [h1, h2, h3]
      rfl
    have h3 : (!decide (x.key = y.key)) = false := h3
    have he : stepEq x y = true := by unfold stepEq; rw [h1, h2, h3]; rfl
    rw [he, Bool.true_and] at hp
    refine oj_run TT rfl ?_
    refine oj_idx TT rfl rfl rfl rfl rfl rfl rfl rfl rfl HA (by omega) hra (oj_run TT rfl ?_)
    skip
    refine oj_split 55 rfl (fun h4 => absurd (show (!x.named) = true from h4) (by rw [h2]; decide)) (fun _ => ?_)
    refine oj_run TT rfl ?_
    (repeat (first | (refine cj_region ?_; refine oj_run TT rfl ?_) | refine oj_then ?_ | refine oj_nil ?_ | refine cj_if_f rfl ?_ | refine cj_skip ?_ | refine nj_then ?_ | refine nj_block ?_ | (refine oj_add rfl rfl rfl rfl rfl rfl (by omega) ?_; refine oj_run TT rfl ?_)))
    refine nj_again (k + 1) ⟨hkl, hp⟩ (by omega) rfl (by (repeat (first | exact trivial | refine And.intro rfl ?_))) (by (repeat (first | exact trivial | refine And.intro rfl ?_))) rfl (by (repeat' (first | exact trivial | constructor))) (by (repeat' exact trivial))
  · have h2 : x.named = false := h2
    refine oj_run TT rfl ?_
    skip
    refine oj_idx TT rfl rfl rfl rfl rfl rfl rfl rfl rfl HA (by omega) hra (oj_run TT rfl ?_)
    skip
    refine oj_split 55 rfl (fun _ => ?_) (fun h4 => absurd (show (!x.named) = false from h4) (by rw [h2]; decide))
    refine oj_run TT rfl ?_
    refine oj_idx TT rfl rfl rfl rfl rfl rfl rfl rfl rfl HA (by omega) hra (oj_run TT rfl ?_)
    refine oj_idx TT rfl rfl rfl rfl rfl rfl rfl rfl rfl HB (by omega) hrb (oj_run TT rfl ?_)
    (repeat refine oj_then ?_)
    refine cj_if rfl (fun h3 => ?_) (fun h3 => ?_)
    · have h3 : (!decide (x.at_ = y.at_)) = true := h3
      (repeat (first | refine cj_seq ?_ | (refine cj_region ?_; refine oj_run TT rfl ?_) | refine oj_then ?_ | refine cj_ret ?_ | refine nj_then_ret ?_ | refine nj_block_ret ?_))
      refine nj_ret TT rfl fun β w' _ _ => ?_
      rw [← hp]
      unfold stepEq
      rw [h1, h2, h3]
      rfl
    · have h3 : (!decide (x.at_ = y.at_)) = false := h3
      have he : stepEq x y = true := by unfold stepEq; rw [h1, h2, h3]; rfl
      rw [he, Bool.true_and] at hp
      (repeat (first | (refine cj_region ?_; refine oj_run TT rfl ?_) | refine oj_nil ?_ | refine cj_skip ?_ | refine nj_then ?_ | refine nj_block ?_ | (refine oj_add rfl rfl rfl rfl rfl rfl (by omega) ?_; refine oj_run TT rfl ?_)))
      refine nj_again (k + 1) ⟨hkl, hp⟩ (by omega) rfl (by (repeat (first | exact trivial | refine And.intro rfl ?_))) (by (repeat (first | exact trivial | refine And.intro rfl ?_))) rfl (by (repeat' (first | exact trivial | constructor))) (by (repeat' exact trivial))
end Go.Sy
/- A store of several cells into an own array. No program in sight. -/
namespace Go.Sy

theorem take_splice {α : Type} (l news : List α) (off N : Nat) (h : off + news.length ≤ N) (hl : N ≤ l.length) :
    (l.take off ++ news ++ l.drop (off + news.length)).take N = (l.take N).take off ++ news ++ (l.take N).drop (off + news.length) := by
  have h1 : (l.take off ++ news).length = off + news.length := by rw [List.length_append, List.length_take]; omega
  rw [List.take_append, h1, List.take_of_length_le (by omega), List.take_take, Nat.min_eq_left (by omega), List.drop_take]

section
variable {cf : Cf} {Q : Exit → Act → World → Prop} {σ : Snap} {env : Env} {hp : HP} {A : List AE} {nh : Nat} {it : Item} {rest : List Item}

theorem oj_stAs (i : Nat) {E : AE} {A' : List AE} {t : Nat} {x y : Operand} {T : List (Nat × TI)} (hT : TTok cf.P T) {ti : TI} {g off : Nat} {cs : List AT} (hop : it.o.op = .store t x y) (hd : it.o.dst = none) (hg : guardVal it.guard env = some true)
    (htag : canSink it.tag = true) (hx : evalO env x = some (.a (.v (.pointer (some ⟨g, off, none⟩))))) (hy : evalO env y = some (.agg cs)) (hi : A[i]? = some E) (hE : E.ao = some ⟨g, 0, none⟩) (ht : tget T t = some ti) (hsz : ti.size = cs.length)
    (hoff : off + cs.length ≤ E.n * E.sz) (hc : ∀ c ∈ cs, c.lt 0) (hone : cs.all AT.one = true)
    (hA : A.set i ⟨E.ao, E.n, E.cap, E.e, E.sz, E.xs.take off ++ cs.map AT.val ++ E.xs.drop (off + cs.length)⟩ = A') (k : OJ cf rest Q σ env hp A' nh) : OJ cf (it :: rest) Q σ env hp A nh := by
  subst hA
  refine ⟨fun hb a β ha hex => ?_⟩
  have key : ∀ w, StW cf σ hp A β w → ∀ Q', it.o.wq cf.P a w (fun a' w' => ∃ E' S' : World → Prop, S' w' ∧ (∀ x, S' x → E' x) ∧ RunT cf.P Q rest E' S' a') Q' := by
    intro w hw Q'
    obtain ⟨inf, d', z, hs⟩ := tiOf_spec (hT _ _ ht)
    have hx' : a.eval x = .pointer (some ⟨g, off, none⟩) := evalO_eval ha hx
    have hmap : cs.map (AT.den β) = cs.map AT.val := List.map_congr_left fun c h => AT.den_val (hc c h) β
    have hy' : a.eval y = .agg (cs.map AT.val).toArray := by
      rw [← hmap]
      exact evalO_eval ha hy
    have hE0 := hw.arr i E hi
    rcases hE0.2 with h1 | ⟨g', cur, h3, h4, h5, h6, h7, h8, h9, h10⟩
    · rw [h1.1] at hE; cases hE
    · rw [hE] at h3
      injection h3 with h3
      simp only [Addr.mk.injEq, and_true] at h3
      subst h3
      have hnc : E.n * E.sz ≤ E.cap * E.sz := Nat.mul_le_mul_right _ h5
      have hll : cur.toList.length = E.cap * E.sz := by rw [Array.length_toList, h7]
      have hst := run_storeCells_at cf.P g off E.e (cs.map AT.val) 0 cur w h4 (by simp only [List.length_map]; omega) (fun v hv => by
        obtain ⟨c, hc', rfl⟩ := List.mem_map.1 hv
        exact AT.one_den β0 (List.all_eq_true.1 hone c hc'))
      simp only [Nat.add_zero, List.length_map] at hst
      have hrun : (execOp a.eval it.o).run cf.P w = .ok .skip (w.setRow g (cur.toList.take off ++ cs.map AT.val ++ cur.toList.drop (off + cs.length)).toArray) := by
        have hsz' : inf.size = cs.length := by rw [hs.size, hsz]
        simp only [execOp, hop, Instr.storeAt, hx', hy', Instr.sureAddr, storeVar, Sem.run_bind, Sem.run_pure, Result.andThen_ok, Value.cells, run_size hs.info, hsz', List.size_toArray, List.length_map, ne_eq, not_true, if_false, Sem.run_ite, hst]
      unfold Oper.wq
      rw [hrun]
      have htk := take_splice cur.toList (cs.map AT.val) off (E.n * E.sz) (by simp only [List.length_map]; omega) (by omega)
      simp only [List.length_map] at htk
      have hxl : E.xs.length = E.n * E.sz := hE0.1
      have hw' := hw.setArr (E' := ⟨E.ao, E.n, E.cap, E.e, E.sz, E.xs.take off ++ cs.map AT.val ++ E.xs.drop (off + cs.length)⟩) (cur' := (cur.toList.take off ++ cs.map AT.val ++ cur.toList.drop (off + cs.length)).toArray) hi hE h4 rfl rfl rfl rfl h5
        (by simp only [List.length_append, List.length_take, List.length_drop, List.length_map]; omega) (by simp only [List.size_toArray, List.length_append, List.length_take, List.length_drop, List.length_map]; omega) (by rw [htk, h8])
      refine ⟨_, _, hw', fun _ h => h, ?_⟩
      rw [hd]
      exact k.run hb a β ha ⟨_, hw'⟩
  simp only [RunT]
  rw [if_pos (guardVal_ok ha hg)]
  cases htag' : it.tag with
  | pure => rw [htag'] at htag; cases htag
  | quiet => rw [htag'] at htag; cases htag
  | keep => rw [htag'] at htag; cases htag
  | sink => exact fun w hw => key w hw _
  | free => exact fun w hw => key w hw _
end
end Go.Sy
namespace Go.Sy
open Go.Proofs

/-! ### slices.Reverse -/

def stXs (l : List GStep) : List Value := (stepRows l).flatten.map AT.val
def spE (ao : Option Addr) (n cap : Nat) (l : List GStep) : AE := ⟨ao, n, cap, 129, 3, stXs l⟩

/-- What is half turned. -/
def revAt (l m : List GStep) (k : Nat) : Prop := m.length = l.length ∧ ∀ q, q < l.length → m[q]? = if q < k ∨ l.length - k ≤ q then l[l.length - 1 - q]? else l[q]?

theorem revAt_zero (l : List GStep) : revAt l l 0 := ⟨rfl, fun q hq => by rw [if_neg (by omega)]⟩
theorem revAt_end {l m : List GStep} {k : Nat} (h : revAt l m k) (hk : l.length ≤ 2 * k + 1) : m = l.reverse := by
  apply List.ext_getElem?
  intro q
  by_cases hq : q < l.length
  · rw [h.2 q hq, List.getElem?_reverse hq]
    split
    · rfl
    · rw [show l.length - 1 - q = q by omega]
  · rw [List.getElem?_eq_none (by rw [h.1]; omega), List.getElem?_eq_none (by rw [List.length_reverse]; omega)]
theorem revAt_step {l m : List GStep} {k : Nat} (h : revAt l m k) (hk : 2 * k + 1 < l.length) {x y : GStep} (hx : m[k]? = some x) (hy : m[l.length - 1 - k]? = some y) :
    revAt l ((m.set k y).set (l.length - 1 - k) x) (k + 1) := by
  refine ⟨by simp [h.1], fun q hq => ?_⟩
  have h1 := h.2 k (by omega)
  have h2 := h.2 (l.length - 1 - k) (by omega)
  rw [if_neg (by omega)] at h1 h2
  rw [List.getElem?_set, List.getElem?_set, List.length_set, h.1]
  by_cases e1 : l.length - 1 - k = q
  · rw [if_pos e1, if_pos (show l.length - 1 - k < l.length by omega), if_pos (by omega), ← hx, h1, show l.length - 1 - q = k by omega]
  · rw [if_neg e1]
    by_cases e2 : k = q
    · rw [if_pos e2, if_pos (show k < l.length by omega), if_pos (by omega), ← hy, h2, e2]
    · rw [if_neg e2, h.2 q hq]
      by_cases e3 : q < k ∨ l.length - k ≤ q
      · rw [if_pos e3, if_pos (by omega)]
      · rw [if_neg e3, if_neg (by omega)]

theorem stXs_cons (x : GStep) (l : List GStep) : stXs (x :: l) = (stepCells x).map AT.val ++ stXs l := by simp [stXs, stepRows]
theorem stXs_get : ∀ {l : List GStep} {i : Nat} {x : GStep}, l[i]? = some x → ∀ (j : Nat) c, (stepCells x)[j]? = some c → (stXs l)[i * 3 + j]? = some c.val
  | y :: l, 0, x, h, j, c, hc => by
    simp only [List.getElem?_cons_zero, Option.some.injEq] at h
    subst h
    have hj : j < 3 := by have := (List.getElem?_eq_some_iff.1 hc).1; simpa [stepCells] using this
    rw [stXs_cons, Nat.zero_mul, Nat.zero_add, List.getElem?_append_left (by simpa [stepCells] using hj), List.getElem?_map, hc]
    rfl
  | y :: l, i + 1, x, h, j, c, hc => by
    rw [stXs_cons, List.getElem?_append_right (by simp [stepCells]; omega)]
    have : (i + 1) * 3 + j - (List.map AT.val (stepCells y)).length = i * 3 + j := by simp [stepCells]; omega
    rw [this]
    exact stXs_get (by simpa using h) j c hc
theorem stXs_set : ∀ {l : List GStep} {i : Nat} (x : GStep), i < l.length → (stXs l).take (i * 3) ++ (stepCells x).map AT.val ++ (stXs l).drop (i * 3 + (stepCells x).length) = stXs (l.set i x)
  | y :: l, 0, x, h => by
    rw [List.set_cons_zero, stXs_cons, stXs_cons, Nat.zero_mul, Nat.zero_add, List.take_zero, List.nil_append]
    congr 1
  | y :: l, i + 1, x, h => by
    have ih := stXs_set (l := l) (i := i) x (by simpa using h)
    rw [List.set_cons_succ, stXs_cons, stXs_cons, ← ih]
    have e1 : (i + 1) * 3 = (List.map AT.val (stepCells y)).length + i * 3 := by simp [stepCells]; omega
    rw [e1, Nat.add_assoc, List.take_length_add_append, List.drop_length_add_append]
    simp only [List.append_assoc]

set_option maxRecDepth 100000 in
set_option maxHeartbeats 1000000 in
theorem Reverse_c (σ : Snap) (l : List GStep) (hL : l.length ≤ 100000) (ao : Option Addr) (cap : Nat) :
    FnS Tryd.prog 80 [.a (.v (.slice ao l.length cap))] σ [spE ao l.length cap l] (fun v _ A' => v = .tuple #[] ∧ A' = [spE ao l.length cap l.reverse]) := by
  refine enter_f Tryd.func80 rfl rfl (by (repeat' (first | exact trivial | constructor))) fun w => ?_
  (repeat (first | refine cj_seq ?_ | (refine cj_region ?_; refine oj_run TT rfl ?_) | refine oj_then ?_ | refine cj_block ?_ | (refine oj_minus rfl rfl rfl rfl rfl rfl (by omega) ?_; refine oj_run TT rfl ?_)))
  refine cj_loop2 (fun _ _ => σ) (fun (k : Nat) (_ : List GStep) => [(0, .a (.v (.slice ao l.length cap))), (2, .a (.v (.int .i64 (k : Int)))), (3, .a (.v (.int .i64 ((l.length : Int) - 1 - k))))]) (fun _ _ => []) (fun _ m => [spE ao l.length cap m]) 0
    (fun k m => revAt l m k ∧ 2 * k ≤ l.length + 1) (fun k _ => l.length + 1 - k) 0 l ⟨revAt_zero l, by omega⟩ rfl ?_ (by (repeat (first | exact trivial | refine And.intro rfl ?_))) rfl (by (repeat' (first | exact trivial | constructor))) (by (repeat' exact trivial)) fun k m ⟨hm, hk⟩ => ?_
  · refine ⟨rfl, rfl, ?_, trivial⟩
    have e : (l.length : Int) - 1 - ((0 : Nat) : Int) = (l.length : Int) - 1 := by omega
    rw [e]
    rfl
  (repeat (first | refine cj_seq ?_ | (refine cj_region ?_; refine oj_run TT rfl ?_) | refine oj_then ?_))
  refine cj_if rfl (fun h => ?_) (fun h => ?_)
  rotate_left
  · have h := of_decide_eq_false h
    rw [revAt_end hm (by omega)]
    (repeat (first | refine cj_exit ?_ | refine nj_then_exit ?_ | refine nj_block_out ?_))
    refine nj_fend TT rfl fun β w' _ _ => ?_
    exact ⟨rfl, rfl⟩
  have h := of_decide_eq_true h
  have hkl : 2 * k + 1 < l.length := by omega
  have hml := hm.1
  have hgk : m[k]? = some m[k] := List.getElem?_eq_getElem (by omega)
  have hgj : m[l.length - 1 - k]? = some (m[l.length - 1 - k]'(by omega)) := List.getElem?_eq_getElem (by omega)
  generalize m[k] = x at *
  generalize m[l.length - 1 - k]'(by omega) = y at *
  have hstep := revAt_step hm hkl hgk hgj
  have ej : (l.length : Int) - 1 - k = (l.length - 1 - k : Nat) := by omega
  rw [ej]
  refine cj_arrAt 0 (E := spE ao l.length cap m) rfl (show 0 < l.length by omega) fun gb hgb => ?_
  have hgb : ao = some ⟨gb, 0, none⟩ := hgb
  subst hgb
  (repeat (first | refine cj_seq ?_ | refine cj_skip ?_ | refine cj_block ?_ | refine nj_then ?_))
  refine cj_draw [(0,.pure),(1,.pure),(2,.pure),(3,.pure),(4,.pure),(5,.pure),(6,.pure),(7,.quiet),(8,.pure),(9,.pure),(10,.pure),(11,.quiet),(12,.pure),(13,.sink),(14,.pure),(15,.sink)] mixed (by kernel_rfl) (oj_run TT rfl ?_)
  generalize hj : l.length - 1 - k = j at *
  have had : ∀ q : Nat, some (SV.a (AT.v (.pointer (some (Addr.add ⟨gb, 0, none⟩ ((q : Int).toNat * 3)))))) = some (SV.a (AT.v (.pointer (some ⟨gb, q * 3, none⟩)))) := fun q => by
    rw [Int.toNat_natCast, add0]
  have hlt : ∀ z : GStep, ∀ c ∈ stepCells z, c.lt 0 := fun z c hc => by simp [stepCells] at hc; rcases hc with rfl | rfl | rfl <;> trivial
  refine oj_indexAddr TT rfl rfl rfl rfl rfl rfl rfl rfl rfl ⟨by omega, by omega⟩ (oj_run TT rfl ?_)
  refine oj_ldAs 0 (off := j * 3) TT (stepCells y) rfl rfl rfl rfl rfl (had j) rfl rfl rfl rfl rfl (fun q c hc => stXs_get hgj q c hc) (hlt y) (oj_run TT rfl ?_)
  refine oj_indexAddr TT rfl rfl rfl rfl rfl rfl rfl rfl rfl ⟨by omega, by omega⟩ (oj_run TT rfl ?_)
  refine oj_ldAs 0 (off := k * 3) TT (stepCells x) rfl rfl rfl rfl rfl (had k) rfl rfl rfl rfl rfl (fun q c hc => stXs_get hgk q c hc) (hlt x) (oj_run TT rfl ?_)
  refine oj_indexAddr TT rfl rfl rfl rfl rfl rfl rfl rfl rfl ⟨by omega, by omega⟩ (oj_run TT rfl ?_)
  refine oj_stAs 0 (off := k * 3) (cs := stepCells y) (A' := [spE (some ⟨gb, 0, none⟩) l.length cap (m.set k y)]) TT rfl rfl rfl rfl (had k) rfl rfl rfl rfl rfl (by show k * 3 + 3 ≤ l.length * 3; omega) (hlt y) rfl ?_ (oj_run TT rfl ?_)
  · show [_] = [_]
    unfold spE
    rw [← stXs_set y (by omega)]
  refine oj_indexAddr TT rfl rfl rfl rfl rfl rfl rfl rfl rfl ⟨by omega, by omega⟩ (oj_run TT rfl ?_)
  refine oj_stAs 0 (off := j * 3) (cs := stepCells x) (A' := [spE (some ⟨gb, 0, none⟩) l.length cap ((m.set k y).set j x)]) TT rfl rfl rfl rfl (had j) rfl rfl rfl rfl rfl (by show j * 3 + 3 ≤ l.length * 3; omega) (hlt x) rfl ?_ (oj_run TT rfl ?_)
  · show [_] = [_]
    unfold spE
    rw [← stXs_set x (by rw [List.length_set]; omega)]
  (repeat (first | (refine cj_region ?_; refine oj_run TT rfl ?_) | refine oj_nil ?_ | refine nj_then ?_ | refine nj_block ?_ | (refine oj_add rfl rfl rfl rfl rfl rfl (by omega) ?_; refine oj_run TT rfl ?_) | (refine oj_minus rfl rfl rfl rfl rfl rfl (by omega) ?_; refine oj_run TT rfl ?_)))
  refine nj_again (k + 1, (m.set k y).set j x) ⟨hstep, by dsimp only; omega⟩ (by dsimp only; omega) rfl ?_ (by (repeat (first | exact trivial | refine And.intro rfl ?_))) rfl (by (repeat' (first | exact trivial | constructor))) (by (repeat' exact trivial))
  refine ⟨rfl, rfl, ?_, trivial⟩
  have e : (l.length : Int) - 1 - ((k + 1 : Nat) : Int) = (j : Int) - 1 := by omega
  dsimp only
  rw [e]
  rfl
end Go.Sy
namespace Go.Sy
open Go.Proofs

/-! ### Place -/

theorem parentK_lt (L : List GRec) (st : Int) : ∀ k : Nat, -1 ≤ parentK L st k ∧ parentK L st k < k
  | 0 => by simp [parentK]
  | k + 1 => by
    have := parentK_lt L st k
    simp only [parentK]
    split <;> omega
theorem parentG_lt (L : List GRec) (i : Nat) : -1 ≤ parentG L i ∧ parentG L i < i := parentK_lt L _ i

/-- The step at record i, under p. -/
def stepG (L : List GRec) (i p : Nat) : GStep :=
  match L[i]? with
  | some r => ⟨r.name, if r.nm then 0 else idxF i (kidsG L p) 0, r.nm⟩
  | none => ⟨emptyS, 0, false⟩
/-- The steps from record i up. -/
def upF (L : List GRec) : Nat → Nat → List GStep
  | 0, _ => []
  | n + 1, i => if parentG L i < 0 then [] else stepG L i (parentG L i).toNat :: upF L n (parentG L i).toNat
theorem upF_len (L : List GRec) : ∀ n k, (upF L n k).length ≤ n
  | 0, _ => Nat.le_refl _
  | n + 1, k => by
    have := upF_len L n (parentG L k).toNat
    unfold upF
    split
    · simp
    · rw [List.length_cons]; omega
def placeG (L : List GRec) (i : Nat) : List GStep := (upF L (i + 1) i).reverse

structure PlS where
  i : Nat
  o : List GStep
  oo : Option Addr
  oc : Nat

theorem sp_sealed {σ : Snap} {oo : Option Addr} {oc : Nat} {o : List GStep} (h : ArrSealed σ (spE oo o.length oc o)) (hc : o.length ≤ oc) : SlAt σ oo o.length oc 3 (stepRows o) :=
  h.sl (E := spE oo o.length oc o) rfl (fun r hr => by
    obtain ⟨k, _, rfl⟩ := List.mem_map.1 hr
    exact ⟨rfl, fun c hc => by simp [stepCells] at hc; rcases hc with rfl | rfl | rfl <;> trivial⟩) (by simp [stepRows]) rfl hc

set_option maxRecDepth 100000 in
set_option maxHeartbeats 1000000 in
theorem Place_c (σ : Snap) (L : List GRec) (R : RecsOk L) (ao : Option Addr) (cap : Nat) (H : SlAt σ ao L.length cap 11 (recRows L)) (i : Nat) (hi : i < L.length) (hs : soundG L = true) (hL : L.length ≤ 100000) :
    PureS Tryd.prog 27 [.a (.v (.slice ao L.length cap)), .a (.v (.int .i64 i))] σ (fun v σ' => ∃ oo oc, v = .slice oo (placeG L i).length oc ∧ SlAt σ' oo (placeG L i).length oc 3 (stepRows (placeG L i))) := by
  have hat : atG L i = true := by
    unfold atG
    rw [hs]
    simp
    omega
  refine enter_s Tryd.func27 rfl rfl (by (repeat' (first | exact trivial | constructor))) fun w => ?_
  (repeat (first | refine cj_seq ?_ | (refine cj_region ?_; refine oj_run TT rfl ?_) | refine oj_then ?_))
  refine oj_callP rfl rfl rfl rfl rfl Tryd.call76 (by (repeat' (first | exact trivial | constructor))) (at_c σ L R ao cap H i) fun v hv => ⟨.a .tt, trivial, by rw [hv, hat]; rfl, ?_⟩
  refine oj_run TT rfl ?_
  (repeat (first | refine cj_seq ?_ | (refine cj_region ?_; refine oj_run TT rfl ?_) | refine oj_then ?_ | refine cj_if_f rfl ?_ | refine cj_skip ?_ | refine nj_then ?_))
  refine oj_nilarr 129 3 ?_
  refine oj_callP rfl rfl rfl rfl rfl Tryd.call78 (by (repeat' (first | exact trivial | constructor))) (parent_c σ L R.len ao cap H i hi) fun v hv => ⟨.a (.v (.int .i64 (parentG L i))), trivial, hv.symm, ?_⟩
  refine oj_run TT rfl ?_
  (repeat (first | refine oj_then ?_ | refine cj_block ?_))
  refine cj_cutB (fun (p : Snap × Option Addr × Nat) => p.1) (fun p => [(5, .a (.v (.slice p.2.1 (upF L (i + 1) i).length p.2.2)))]) (fun _ => []) (fun p => [spE p.2.1 (upF L (i + 1) i).length p.2.2 (upF L (i + 1) i)]) 0 (fun p => (upF L (i + 1) i).length ≤ p.2.2) ?_ (fun p hp => ?_)
  · refine cj_loop2 (fun (s : Snap) (_ : Nat × PlS) => s) (fun _ t => [(0, .a (.v (.slice ao L.length cap))), (1, .a (.v (.int .i64 (t.2.i : Int)))), (5, .a (.v (.slice t.2.oo t.2.o.length t.2.oc))), (6, .a (.v (.int .i64 (parentG L t.2.i))))]) (fun _ _ => [])
      (fun _ t => [spE t.2.oo t.2.o.length t.2.oc t.2.o]) 0 (fun s t => σ.le s ∧ t.2.i ≤ i ∧ t.2.i < t.1 ∧ t.2.o ++ upF L t.1 t.2.i = upF L (i + 1) i ∧ t.2.o.length ≤ t.2.oc ∧ t.2.o.length + t.2.i ≤ i) (fun _ t => t.2.i) σ (i + 1, ⟨i, [], none, 0⟩)
      ⟨Snap.le_refl _, Nat.le_refl _, Nat.lt_succ_self _, rfl, Nat.le_refl _, by simp⟩ rfl (by (repeat (first | exact trivial | refine And.intro rfl ?_))) (by (repeat (first | exact trivial | refine And.intro rfl ?_))) rfl (by (repeat' (first | exact trivial | constructor))) (by (repeat' exact trivial)) fun s ⟨n, k, o, oo, oc⟩ ⟨hs, hk, hn, hp, hoc, hok⟩ => ?_
    dsimp only at hk hn hp hoc hok ⊢
    obtain ⟨n, rfl⟩ : ∃ m, n = m + 1 := ⟨n - 1, by omega⟩
    have hpl := parentG_lt L k
    have hkl : k < L.length := by omega
    have hrow := recRows_get (List.getElem?_eq_getElem hkl)
    have H := H.mono hs
    rw [upF] at hp
    (repeat (first | refine cj_seq ?_ | (refine cj_region ?_; refine oj_run TT rfl ?_) | refine oj_then ?_))
    refine cj_if rfl (fun h => ?_) (fun h => ?_)
    rotate_left
    · have h := of_decide_eq_false h
      rw [if_pos (by omega), List.append_nil] at hp
      subst hp
      (repeat (first | refine cj_exit ?_ | refine nj_then_exit ?_ | refine nj_block_out ?_))
      refine nj_again (s, oo, oc) hoc Nat.zero_lt_one rfl (by (repeat (first | exact trivial | refine And.intro rfl ?_))) (by (repeat (first | exact trivial | refine And.intro rfl ?_))) rfl (by (repeat' (first | exact trivial | constructor))) (by (repeat' exact trivial))
    have h := of_decide_eq_true h
    rw [if_neg (by omega)] at hp
    obtain ⟨q, hq⟩ : ∃ q : Nat, parentG L k = q := ⟨(parentG L k).toNat, by omega⟩
    rw [hq] at hp ⊢
    rw [Int.toNat_natCast] at hp
    have hql : q < L.length := by omega
    have hst : stepG L k q = ⟨L[k].name, if L[k].nm then 0 else idxF k (kidsG L q) 0, L[k].nm⟩ := by unfold stepG; rw [List.getElem?_eq_getElem hkl]
    generalize L[k] = x at *
    have hklen : (kidsG L q).length ≤ L.length := by
      unfold kidsG
      exact Nat.le_trans (kidsF_len L _ L.length (q + 1)) (Nat.sub_le _ _)
    (repeat (first | refine cj_seq ?_ | refine cj_skip ?_ | refine cj_block ?_ | refine nj_then ?_))
    refine cj_draw [(0,.pure),(1,.pure),(2,.pure),(3,.pure),(4,.quiet),(5,.pure),(6,.pure),(7,.pure),(8,.pure),(9,.quiet),(10,.pure),(11,.keep),(12,.sink)] mixed (by kernel_rfl) (oj_run TT rfl ?_)
    refine oj_idx TT rfl rfl rfl rfl rfl rfl rfl rfl rfl H (by omega) hrow (oj_run TT rfl ?_)
    refine oj_idx TT rfl rfl rfl rfl rfl rfl rfl rfl rfl H (by omega) hrow (oj_run TT rfl ?_)
    (repeat (first | refine cj_seq ?_ | (refine cj_region ?_; refine oj_run TT rfl ?_) | refine oj_then ?_))
    refine cj_cutN (fun (s' : Snap) => s') (fun _ => [(0, .a (.v (.slice ao L.length cap))), (1, .a (.v (.int .i64 (k : Int)))), (5, .a (.v (.slice oo o.length oc))), (6, .a (.v (.int .i64 (q : Int)))), (7, .a (.p 2 0))])
      (fun _ => [(2, .loc 129, stepCells (stepG L k q))]) (fun _ => [spE oo o.length oc o]) 3 (fun s' => s.le s') ?_ (fun s' hs' => ?_)
    · refine cj_if rfl (fun h => ?_) (fun h => ?_)
      · have h : x.nm = false := by simpa using h
        (repeat (refine cj_region ?_; refine oj_run TT rfl ?_))
        refine oj_callS rfl rfl rfl rfl rfl Tryd.call77 ⟨trivial, trivial, trivial⟩ (kids_c s L hL ao cap H q hql) fun v σ1 hle ⟨oo', oc', hv, HK⟩ => ⟨.a (.v (.slice oo' (kidsG L q).length oc')), trivial, hv.symm, ?_⟩
        refine oj_run TT rfl ?_
        skip
        refine oj_callP rfl rfl rfl rfl rfl Tryd.call79 (by (repeat' (first | exact trivial | constructor))) (Index_c σ1 (kidsG L q) (by omega) oo' oc' HK k) fun v hv => ⟨.a (.v (.int .i64 (idxF k (kidsG L q) 0))), trivial, hv.symm, ?_⟩
        refine oj_run TT rfl ?_
        (repeat refine oj_nil ?_)
        refine nj_again σ1 hle Nat.zero_lt_one rfl (by (repeat (first | exact trivial | refine And.intro rfl ?_))) (by rw [hst, h]; (repeat (first | exact trivial | refine And.intro rfl ?_))) rfl (by (repeat' (first | exact trivial | exact Nat.le_of_ble_eq_true rfl | constructor))) (by (repeat' (first | exact trivial | exact Nat.le_of_ble_eq_true rfl | refine AllLt.of ?_ | constructor)))
      · have h : x.nm = true := by simpa using h
        (repeat refine cj_skip ?_)
        refine nj_again s (Snap.le_refl s) Nat.zero_lt_one rfl (by (repeat (first | exact trivial | refine And.intro rfl ?_))) (by rw [hst, h]; (repeat (first | exact trivial | refine And.intro rfl ?_))) rfl (by (repeat' (first | exact trivial | exact Nat.le_of_ble_eq_true rfl | constructor))) (by (repeat' (first | exact trivial | exact Nat.le_of_ble_eq_true rfl | refine AllLt.of ?_ | constructor)))
    have H := H.mono hs'
    generalize stepG L k q = z at *
    clear hst
    (repeat (refine cj_region ?_; refine oj_run TT rfl ?_))
    refine oj_append_lit TT 0 rfl rfl rfl rfl rfl rfl rfl rfl rfl rfl rfl rfl rfl rfl rfl rfl rfl rfl (by (repeat' (first | exact trivial | refine AllLt.of ?_ | constructor))) rfl (by omega) (by show (o.length + 1) * 32 ≤ _; omega) fun ao' cap' hcap' => oj_run TT rfl ?_
    (repeat (first | (refine cj_region ?_; refine oj_run TT rfl ?_) | refine oj_nil ?_ | refine nj_then ?_ | refine nj_block ?_))
    refine oj_callP rfl rfl rfl rfl rfl Tryd.call78 (by (repeat' (first | exact trivial | constructor))) (parent_c s' L R.len ao cap H q hql) fun v hv => ⟨.a (.v (.int .i64 (parentG L q))), trivial, hv.symm, ?_⟩
    refine oj_run TT rfl ?_
    (repeat refine oj_nil ?_)
    refine nj_again (s', n, ⟨q, o ++ [z], ao', cap'⟩) ⟨Snap.le_trans hs hs', by dsimp only; omega, by dsimp only; omega, by dsimp only; rw [List.append_assoc]; exact hp, by dsimp only; rw [List.length_append]; exact hcap', by dsimp only; rw [List.length_append, List.length_singleton]; omega⟩ (by dsimp only; omega) rfl ?_ (by (repeat (first | exact trivial | refine And.intro rfl ?_))) ?_ (by (repeat' (first | exact trivial | constructor))) (by (repeat' exact trivial))
    · refine ⟨rfl, rfl, ?_, rfl, trivial⟩
      dsimp only
      rw [List.length_append]
      rfl
    · dsimp only
      rw [List.length_append]
      show [_] = [_]
      unfold spE stXs stepRows
      rw [List.map_append, List.flatten_append, List.map_append]
      rfl
  (repeat (first | refine cj_seq ?_ | (refine cj_region ?_; refine oj_run TT rfl ?_)))
  refine oj_callF [0] (A0 := [spE p.2.1 (upF L (i + 1) i).length p.2.2 (upF L (i + 1) i)]) (Ar := []) rfl rfl rfl rfl rfl rfl rfl Tryd.call80 (by (repeat' (first | exact trivial | constructor))) (Reverse_c p.1 (upF L (i + 1) i) (Nat.le_trans (upF_len L (i + 1) i) (by omega)) p.2.1 p.2.2) fun v σ2 A2 hle2 ⟨hv, hA⟩ => ⟨.tup [], (by (repeat' (first | exact trivial | refine SV.lt_tup ?_))), hv.symm, ?_⟩
  subst hA
  refine oj_run TT rfl ?_
  (repeat (first | refine cj_seq ?_ | (refine cj_region ?_; refine oj_run TT rfl ?_) | refine oj_then ?_ | refine cj_ret ?_))
  refine nj_seal 0 rfl rfl fun σ' hle' hS => ?_
  refine nj_ret TT rfl fun β w' _ _ => ?_
  have hl : (placeG L i).length = (upF L (i + 1) i).length := List.length_reverse
  rw [hl]
  refine ⟨p.2.1, p.2.2, rfl, ?_⟩
  have hS : ArrSealed σ' (spE p.2.1 (placeG L i).length p.2.2 (placeG L i)) := by rw [hl]; exact hS
  rw [← hl]
  exact sp_sealed hS (by rw [hl]; exact hp)
end Go.Sy
