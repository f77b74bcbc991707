/- Parts of the proof of CEditsReplace: F59, F60, F57, F58, F61, F62. No conditions. -/
import Derived.Test.YtadnijcgohflhaaDoorM11
namespace Go.Sy
open Go.Proofs

/-! ### value.at -/

theorem its_kind {g : GVal} (hd : kinds g) {m : Nat} {x : Itm} (hx : (its g)[m]? = some x) : g.kind = if (stepOf m x).named then 5 else 4 := by
  obtain ⟨k4, k5, -, -⟩ := (kinds_eq g).1 hd
  show g.kind = if x.nm then 5 else 4
  rcases its_split hx with ⟨h1, h2, h3⟩ | ⟨h1, h2, h3, h4⟩
  · rw [h1, if_neg (by decide)]
    exact k4 (fun e => by rw [e] at h2; simp at h2)
  · rw [h1, if_pos rfl]
    exact k5 (fun e => by rw [e] at h3; simp at h3)

/-- What a change does at its last step. -/
def DoOk (f : FuncId) (caps : List PT) (σ : Snap) (hp hp' : GVal) (s : GStep) : Prop :=
  ∀ σ', σ.le σ' → ∀ la lc lrows ma mc vrows, VAt σ' hp la lc lrows ma mc vrows →
    PureS Tryd.prog f (.agg (vCells hp la lc ma mc) :: .agg (stepCells s) :: .a .tt :: caps.map ptSV) σ' (fun v σ'' => ∃ r, v = (SV.tup [.agg r, .a (.v (.int .i64 0))]).den β0 ∧ RepV σ'' hp' r)
structure CellQ where
  la : Option Addr
  lc : Nat
  ma : Option Addr
  mc : Nat
structure CellS where
  σ : Snap
  q : CellQ

set_option maxRecDepth 100000 in
set_option maxHeartbeats 1000000 in
theorem vat_c (f : FuncId) (caps : List PT) (hcap : LtAll (caps.map ptSV)) (hcall : ∀ args w, (callFunc f args).run Tryd.prog w = .ok (.enter f args) w) : ∀ (P : List GStep) (σ : Snap) (g g' hp hp' : GVal) (m : Nat) (x : Itm), Swap g g' P hp hp' → g.wf → keysOk g → kinds g → g.weight ≤ 1000000 → P.length ≤ 1000000 → (its hp)[m]? = some x → DoOk f caps σ hp hp' (stepOf m x) →
    ∀ la lc lrows ma mc vrows, VAt σ g la lc lrows ma mc vrows → ∀ (so : Option Addr) (N sc : Nat), N = P.length + 1 → SlAt σ so N sc 3 (stepRows (P ++ [stepOf m x])) →
    PureS Tryd.prog 108 [.agg (vCells g la lc ma mc), .a (.v (.slice so N sc)), .a (.fn (.func f) caps)] σ (fun v σ' => ∃ r, v = (SV.tup [.agg r, .a (.v (.int .i64 0))]).den β0 ∧ RepV σ' g' r) := by
  have hflt : ∀ n, (SV.a (.fn (.func f) caps)).lt n := fun n => fn_lt_caps (f := .func f) hcap n
  intro P
  induction P with
  | nil =>
    intro σ g g' hp hp' m x hsw hw hk hd hgw hPl hx hdo la lc lrows ma mc vrows V so N sc hN S
    cases hsw
    have hkind := its_kind hd hx
    have hstep := stepV_its hk hd hx
    have hrow0 : (stepRows ([] ++ [stepOf m x]))[(0 : Int).toNat]? = some (stepCells (stepOf m x)) := rfl
    rw [List.length_nil] at hN
    generalize stepOf m x = s0 at *
    generalize hy0 : x = y0 at hstep
    refine enter_s Tryd.func108 rfl rfl ⟨vCells_lt _ _ _ _ _ _, trivial, hflt 0, trivial⟩ fun w => ?_
    (repeat (first | refine cj_seq ?_ | (refine cj_region ?_; refine oj_run TT rfl ?_) | refine oj_then ?_))
    refine oj_idx TT rfl rfl rfl rfl rfl rfl rfl rfl rfl S (by omega) hrow0 (oj_run TT rfl ?_)
    (repeat refine oj_then ?_)
    refine cj_cutN (fun (_ : Unit) => σ) (fun _ => [(1, .a (.v (.slice so N sc))), (2, .a (.fn (.func f) caps)), (3, .a (.p 0 0)), (6, .a (.p 1 0)), (8, .a (.v (.int .i64 g.kind)))])
      (fun _ => [(0, .loc 27, vCells g la lc ma mc), (1, .loc 27, zeroV)]) (fun _ => []) 2 (fun _ => True) ?_ (fun _ _ => ?_)
    · refine cj_if rfl (fun h => ?_) (fun h => ?_)
      · have hn : s0.named = true := h
        rw [hn, if_pos rfl] at hkind
        (repeat (first | (refine cj_region ?_; refine oj_run TT rfl ?_) | refine oj_nil ?_))
        refine nj_set 8 (.a (.v (.int .i64 g.kind))) rfl trivial (fun β => by rw [hkind]) ?_
        refine nj_again () trivial Nat.zero_lt_one rfl (by (repeat (first | exact trivial | refine And.intro rfl ?_))) (by (repeat (first | exact trivial | refine And.intro rfl ?_))) rfl ⟨trivial, hflt 2, Nat.le_of_ble_eq_true rfl, Nat.le_of_ble_eq_true rfl, trivial, trivial⟩ (by (repeat' (first | exact trivial | exact Nat.le_of_ble_eq_true rfl | exact vCells_lt _ _ _ _ _ _ | refine AllLt.of ?_ | constructor)))
      · have hn : s0.named = false := h
        rw [hn, if_neg (by decide)] at hkind
        (repeat refine cj_skip ?_)
        refine nj_set 8 (.a (.v (.int .i64 g.kind))) rfl trivial (fun β => by rw [hkind]) ?_
        refine nj_again () trivial Nat.zero_lt_one rfl (by (repeat (first | exact trivial | refine And.intro rfl ?_))) (by (repeat (first | exact trivial | refine And.intro rfl ?_))) rfl ⟨trivial, hflt 2, Nat.le_of_ble_eq_true rfl, Nat.le_of_ble_eq_true rfl, trivial, trivial⟩ (by (repeat' (first | exact trivial | exact Nat.le_of_ble_eq_true rfl | exact vCells_lt _ _ _ _ _ _ | refine AllLt.of ?_ | constructor)))
    (repeat (first | refine cj_seq ?_ | (refine cj_region ?_; refine oj_run TT rfl ?_) | refine oj_then ?_))
    refine cj_if rfl (fun h => absurd (show (!decide (g.kind = g.kind)) = true from h) (by simp)) (fun _ => ?_)
    refine cj_skip ?_
    refine nj_then ?_
    refine cj_seq ?_
    refine cj_cutN (fun (_ : CellQ) => σ) (fun _ => [(1, .a (.v (.slice so N sc))), (2, .a (.fn (.func f) caps)), (3, .a (.p 0 0)), (6, .a (.p 1 0)), (9, .a (.p 3 0)), (10, .a .tt)])
      (fun q => [(0, .loc 27, vCells g la lc ma mc), (1, .loc 27, zeroV), (3, .loc 27, vCells y0.v q.la q.lc q.ma q.mc)]) (fun _ => []) 4 (fun q => RepV σ y0.v (vCells y0.v q.la q.lc q.ma q.mc)) ?_ (fun q hq => ?_)
    · refine cj_drawG 11 [1, 2, 5, 6, 7, 10] mixed (by kernel_rfl) rfl ?_
      refine gj_val (i := 0) TT rfl (by kernel_rfl) (by kernel_rfl) rfl rfl rfl rfl rfl ?_
      refine gj_val (i := 1) TT rfl (by kernel_rfl) (by kernel_rfl) rfl rfl rfl rfl rfl ?_
      refine gj_idx (i := 2) TT rfl rfl (by kernel_rfl) (by kernel_rfl) rfl rfl rfl rfl rfl rfl rfl rfl rfl S (by omega) hrow0 ?_
      refine gj_val (i := 3) TT rfl (by kernel_rfl) (by kernel_rfl) rfl rfl rfl rfl rfl ?_
      refine gj_two (i := 4) (j := 8) (by kernel_rfl) ?_ ?_
      · refine gk_callP rfl rfl rfl rfl rfl Tryd.call90 ⟨vCells_lt _ _ _ _ _ _, (by (repeat' (first | exact trivial | refine AllLt.of ?_ | constructor))), trivial⟩ (step_c σ g la lc lrows ma mc vrows V s0) fun v hv => ?_
        rw [hstep] at hv
        obtain ⟨rr, hv, hrep⟩ := hv
        obtain ⟨la', lc', lrows', ma', mc', vrows', rfl, V'⟩ := RepV.open (g := y0.v) hrep
        refine ⟨.tup [.agg (vCells y0.v la' lc' ma' mc'), .a .tt], (by (repeat' (first | exact trivial | exact vCells_lt _ _ _ _ _ _ | refine SV.lt_tup ?_ | constructor))), hv.symm, ?_⟩
        refine gj_order [(5,.pure),(6,.pure),(7,.pure),(8,.keep),(9,.sink),(10,.pure)] rfl rfl (by kernel_rfl) ?_
        refine oj_run TT rfl ?_
        (repeat refine oj_nil ?_)
        refine nj_again (⟨la', lc', ma', mc'⟩ : CellQ) V'.rep Nat.zero_lt_one rfl (by (repeat (first | exact trivial | refine And.intro rfl ?_))) (by (repeat (first | exact trivial | refine And.intro rfl ?_))) rfl ⟨trivial, hflt 4, Nat.le_of_ble_eq_true rfl, Nat.le_of_ble_eq_true rfl, Nat.le_of_ble_eq_true rfl, trivial, trivial⟩ (by (repeat' (first | exact trivial | exact Nat.le_of_ble_eq_true rfl | exact vCells_lt _ _ _ _ _ _ | refine AllLt.of ?_ | constructor)))
      · refine gk_new TT rfl rfl rfl rfl rfl ?_
        refine gj_order [(4,.keep),(5,.pure),(6,.pure),(7,.pure),(9,.sink),(10,.pure)] rfl rfl (by kernel_rfl) ?_
        refine oj_callP rfl rfl rfl rfl rfl Tryd.call90 ⟨vCells_lt _ _ _ _ _ _, (by (repeat' (first | exact trivial | refine AllLt.of ?_ | constructor))), trivial⟩ (step_c σ g la lc lrows ma mc vrows V s0) fun v hv => ?_
        rw [hstep] at hv
        obtain ⟨rr, hv, hrep⟩ := hv
        obtain ⟨la', lc', lrows', ma', mc', vrows', rfl, V'⟩ := RepV.open (g := y0.v) hrep
        refine ⟨.tup [.agg (vCells y0.v la' lc' ma' mc'), .a .tt], (by (repeat' (first | exact trivial | exact vCells_lt _ _ _ _ _ _ | refine SV.lt_tup ?_ | constructor))), hv.symm, ?_⟩
        refine oj_run TT rfl ?_
        (repeat refine oj_nil ?_)
        refine nj_again (⟨la', lc', ma', mc'⟩ : CellQ) V'.rep Nat.zero_lt_one rfl (by (repeat (first | exact trivial | refine And.intro rfl ?_))) (by (repeat (first | exact trivial | refine And.intro rfl ?_))) rfl ⟨trivial, hflt 4, Nat.le_of_ble_eq_true rfl, Nat.le_of_ble_eq_true rfl, Nat.le_of_ble_eq_true rfl, trivial, trivial⟩ (by (repeat' (first | exact trivial | exact Nat.le_of_ble_eq_true rfl | exact vCells_lt _ _ _ _ _ _ | refine AllLt.of ?_ | constructor)))
    obtain ⟨qla, qlc, qma, qmc⟩ := q
    dsimp only at hq ⊢
    (repeat (first | refine cj_seq ?_ | (refine cj_region ?_; refine oj_run TT rfl ?_) | refine oj_then ?_ | refine cj_block ?_))
    refine cj_if rfl (fun _ => ?_) (fun h => absurd (of_decide_eq_false (show decide ((N : Int) = 1) = false from h)) (by omega))
    (repeat refine cj_seq ?_)
    refine cj_draw [(0,.pure),(1,.quiet),(2,.pure),(3,.pure),(4,.quiet),(5,.pure),(6,.keep),(7,.pure),(8,.pure),(9,.sink),(10,.pure)] mixed (by kernel_rfl) (oj_run TT rfl ?_)
    refine oj_idx TT rfl rfl rfl rfl rfl rfl rfl rfl rfl S (by omega) hrow0 (oj_run TT rfl ?_)
    refine oj_callS (ys := .agg (vCells g la lc ma mc) :: .agg (stepCells s0) :: .a .tt :: caps.map ptSV) rfl rfl rfl rfl rfl hcall ⟨vCells_lt _ _ _ _ _ _, (by (repeat' (first | exact trivial | refine AllLt.of ?_ | constructor))), trivial, hcap⟩ (hdo σ (Snap.le_refl _) la lc lrows ma mc vrows V) fun v σ2 hle2 ⟨r2, hv, hrep⟩ => ⟨.tup [.agg r2, .a (.v (.int .i64 0))], SV.lt_tup ⟨hrep.clo, trivial, trivial⟩, hv.symm, ?_⟩
    obtain ⟨la2, lc2, lrows2, ma2, mc2, vrows2, rfl, V2⟩ := hrep.open
    refine oj_run TT rfl ?_
    (repeat (first | refine oj_then ?_ | refine cj_ret ?_ | refine nj_then_ret ?_ | refine nj_block_ret ?_))
    refine nj_ret TT rfl fun β w' _ _ => ?_
    exact ⟨_, rfl, V2.rep⟩
  | cons sq P ih =>
    intro σ g g' hp hp' m x hsw hw hk hd hgw hPl hx hdo la lc lrows ma mc vrows V so N sc hN S
    rw [List.length_cons] at hN hPl
    generalize hQ : sq :: P = Q at hsw
    cases hsw with
    | refl => cases hQ
    | @step _ v' n0 y0 P0 _ _ hy0 hs0 =>
    obtain ⟨e1, e2⟩ := List.cons.inj hQ
    subst e1 e2
    have hkind := its_kind hd hy0
    have hstep := stepV_its hk hd hy0
    have hrow0 : (stepRows (stepOf n0 y0 :: P ++ [stepOf m x]))[(0 : Int).toNat]? = some (stepCells (stepOf n0 y0)) := rfl
    have hmem := List.mem_of_getElem? hy0
    have hyw := in_weight (its_mem hw hmem)
    have hlay := fun σ' V0 y yla ylc ylrows yma ymc yvrows Y => lay_c σ' g la lc lrows ma mc vrows V0 (by omega) hk hy0 y yla ylc ylrows yma ymc yvrows Y
    have hss : ((stepRows (stepOf n0 y0 :: P ++ [stepOf m x])).take N).drop 1 = stepRows (P ++ [stepOf m x]) := by
      have hl : (stepRows (stepOf n0 y0 :: P ++ [stepOf m x])).length = N := S.len
      rw [List.take_of_length_le (by omega)]
      rfl
    generalize hs00 : stepOf n0 y0 = s0 at *
    refine enter_s Tryd.func108 rfl rfl ⟨vCells_lt _ _ _ _ _ _, trivial, hflt 0, trivial⟩ fun w => ?_
    (repeat (first | refine cj_seq ?_ | (refine cj_region ?_; refine oj_run TT rfl ?_) | refine oj_then ?_))
    refine oj_idx TT rfl rfl rfl rfl rfl rfl rfl rfl rfl S (by omega) hrow0 (oj_run TT rfl ?_)
    (repeat refine oj_then ?_)
    refine cj_cutN (fun (_ : Unit) => σ) (fun _ => [(1, .a (.v (.slice so N sc))), (2, .a (.fn (.func f) caps)), (3, .a (.p 0 0)), (6, .a (.p 1 0)), (8, .a (.v (.int .i64 g.kind)))])
      (fun _ => [(0, .loc 27, vCells g la lc ma mc), (1, .loc 27, zeroV)]) (fun _ => []) 2 (fun _ => True) ?_ (fun _ _ => ?_)
    · refine cj_if rfl (fun h => ?_) (fun h => ?_)
      · have hn : s0.named = true := h
        rw [hn, if_pos rfl] at hkind
        (repeat (first | (refine cj_region ?_; refine oj_run TT rfl ?_) | refine oj_nil ?_))
        refine nj_set 8 (.a (.v (.int .i64 g.kind))) rfl trivial (fun β => by rw [hkind]) ?_
        refine nj_again () trivial Nat.zero_lt_one rfl (by (repeat (first | exact trivial | refine And.intro rfl ?_))) (by (repeat (first | exact trivial | refine And.intro rfl ?_))) rfl ⟨trivial, hflt 2, Nat.le_of_ble_eq_true rfl, Nat.le_of_ble_eq_true rfl, trivial, trivial⟩ (by (repeat' (first | exact trivial | exact Nat.le_of_ble_eq_true rfl | exact vCells_lt _ _ _ _ _ _ | refine AllLt.of ?_ | constructor)))
      · have hn : s0.named = false := h
        rw [hn, if_neg (by decide)] at hkind
        (repeat refine cj_skip ?_)
        refine nj_set 8 (.a (.v (.int .i64 g.kind))) rfl trivial (fun β => by rw [hkind]) ?_
        refine nj_again () trivial Nat.zero_lt_one rfl (by (repeat (first | exact trivial | refine And.intro rfl ?_))) (by (repeat (first | exact trivial | refine And.intro rfl ?_))) rfl ⟨trivial, hflt 2, Nat.le_of_ble_eq_true rfl, Nat.le_of_ble_eq_true rfl, trivial, trivial⟩ (by (repeat' (first | exact trivial | exact Nat.le_of_ble_eq_true rfl | exact vCells_lt _ _ _ _ _ _ | refine AllLt.of ?_ | constructor)))
    (repeat (first | refine cj_seq ?_ | (refine cj_region ?_; refine oj_run TT rfl ?_) | refine oj_then ?_))
    refine cj_if rfl (fun h => absurd (show (!decide (g.kind = g.kind)) = true from h) (by simp)) (fun _ => ?_)
    refine cj_skip ?_
    refine nj_then ?_
    refine cj_seq ?_
    refine cj_cutN (fun (_ : CellQ) => σ) (fun _ => [(1, .a (.v (.slice so N sc))), (2, .a (.fn (.func f) caps)), (3, .a (.p 0 0)), (6, .a (.p 1 0)), (9, .a (.p 3 0)), (10, .a .tt)])
      (fun q => [(0, .loc 27, vCells g la lc ma mc), (1, .loc 27, zeroV), (3, .loc 27, vCells y0.v q.la q.lc q.ma q.mc)]) (fun _ => []) 4 (fun q => RepV σ y0.v (vCells y0.v q.la q.lc q.ma q.mc)) ?_ (fun q hq => ?_)
    · refine cj_drawG 11 [1, 2, 5, 6, 7, 10] mixed (by kernel_rfl) rfl ?_
      refine gj_val (i := 0) TT rfl (by kernel_rfl) (by kernel_rfl) rfl rfl rfl rfl rfl ?_
      refine gj_val (i := 1) TT rfl (by kernel_rfl) (by kernel_rfl) rfl rfl rfl rfl rfl ?_
      refine gj_idx (i := 2) TT rfl rfl (by kernel_rfl) (by kernel_rfl) rfl rfl rfl rfl rfl rfl rfl rfl rfl S (by omega) hrow0 ?_
      refine gj_val (i := 3) TT rfl (by kernel_rfl) (by kernel_rfl) rfl rfl rfl rfl rfl ?_
      refine gj_two (i := 4) (j := 8) (by kernel_rfl) ?_ ?_
      · refine gk_callP rfl rfl rfl rfl rfl Tryd.call90 ⟨vCells_lt _ _ _ _ _ _, (by (repeat' (first | exact trivial | refine AllLt.of ?_ | constructor))), trivial⟩ (step_c σ g la lc lrows ma mc vrows V s0) fun v hv => ?_
        rw [hstep] at hv
        obtain ⟨rr, hv, hrep⟩ := hv
        obtain ⟨la', lc', lrows', ma', mc', vrows', rfl, V'⟩ := RepV.open (g := y0.v) hrep
        refine ⟨.tup [.agg (vCells y0.v la' lc' ma' mc'), .a .tt], (by (repeat' (first | exact trivial | exact vCells_lt _ _ _ _ _ _ | refine SV.lt_tup ?_ | constructor))), hv.symm, ?_⟩
        refine gj_order [(5,.pure),(6,.pure),(7,.pure),(8,.keep),(9,.sink),(10,.pure)] rfl rfl (by kernel_rfl) ?_
        refine oj_run TT rfl ?_
        (repeat refine oj_nil ?_)
        refine nj_again (⟨la', lc', ma', mc'⟩ : CellQ) V'.rep Nat.zero_lt_one rfl (by (repeat (first | exact trivial | refine And.intro rfl ?_))) (by (repeat (first | exact trivial | refine And.intro rfl ?_))) rfl ⟨trivial, hflt 4, Nat.le_of_ble_eq_true rfl, Nat.le_of_ble_eq_true rfl, Nat.le_of_ble_eq_true rfl, trivial, trivial⟩ (by (repeat' (first | exact trivial | exact Nat.le_of_ble_eq_true rfl | exact vCells_lt _ _ _ _ _ _ | refine AllLt.of ?_ | constructor)))
      · refine gk_new TT rfl rfl rfl rfl rfl ?_
        refine gj_order [(4,.keep),(5,.pure),(6,.pure),(7,.pure),(9,.sink),(10,.pure)] rfl rfl (by kernel_rfl) ?_
        refine oj_callP rfl rfl rfl rfl rfl Tryd.call90 ⟨vCells_lt _ _ _ _ _ _, (by (repeat' (first | exact trivial | refine AllLt.of ?_ | constructor))), trivial⟩ (step_c σ g la lc lrows ma mc vrows V s0) fun v hv => ?_
        rw [hstep] at hv
        obtain ⟨rr, hv, hrep⟩ := hv
        obtain ⟨la', lc', lrows', ma', mc', vrows', rfl, V'⟩ := RepV.open (g := y0.v) hrep
        refine ⟨.tup [.agg (vCells y0.v la' lc' ma' mc'), .a .tt], (by (repeat' (first | exact trivial | exact vCells_lt _ _ _ _ _ _ | refine SV.lt_tup ?_ | constructor))), hv.symm, ?_⟩
        refine oj_run TT rfl ?_
        (repeat refine oj_nil ?_)
        refine nj_again (⟨la', lc', ma', mc'⟩ : CellQ) V'.rep Nat.zero_lt_one rfl (by (repeat (first | exact trivial | refine And.intro rfl ?_))) (by (repeat (first | exact trivial | refine And.intro rfl ?_))) rfl ⟨trivial, hflt 4, Nat.le_of_ble_eq_true rfl, Nat.le_of_ble_eq_true rfl, Nat.le_of_ble_eq_true rfl, trivial, trivial⟩ (by (repeat' (first | exact trivial | exact Nat.le_of_ble_eq_true rfl | exact vCells_lt _ _ _ _ _ _ | refine AllLt.of ?_ | constructor)))
    obtain ⟨qla, qlc, qma, qmc⟩ := q
    dsimp only at hq ⊢
    (repeat (first | refine cj_seq ?_ | (refine cj_region ?_; refine oj_run TT rfl ?_) | refine oj_then ?_ | refine cj_block ?_))
    refine cj_if rfl (fun h => absurd (of_decide_eq_true (show decide ((N : Int) = 1) = true from h)) (by omega)) (fun _ => ?_)
    (repeat (first | refine cj_seq ?_ | (refine cj_region ?_; refine oj_run TT rfl ?_) | refine oj_then ?_ | refine cj_if_f rfl ?_ | refine cj_skip ?_ | refine nj_then ?_ | refine nj_block ?_))
    have S1 := S.sub (l := 1) (k := N) (by omega) (Nat.le_refl _)
    rw [hss] at S1
    obtain ⟨la', lc', lrows', ma', mc', vrows', hcc, V'⟩ := hq.open
    rw [hcc]
    have hrec := ih σ y0.v v' hp hp' m x hs0 (its_wf hw hmem) (its_keys hw hk hmem) (its_kinds hw hd hmem) (by omega) (by omega) hx hdo la' lc' lrows' ma' mc' vrows' V' _ (N - 1) _ (by omega) S1
    refine cj_cutN (fun (s : CellS) => s.σ) (fun _ => [(1, .a (.v (.slice so N sc))), (3, .a (.p 0 0)), (6, .a (.p 1 0)), (11, .a (.p 4 0)), (12, .a (.v (.int .i64 0)))])
      (fun s => [(0, .loc 27, vCells g la lc ma mc), (1, .loc 27, zeroV), (4, .loc 27, vCells v' s.q.la s.q.lc s.q.ma s.q.mc)]) (fun _ => []) 5 (fun s => σ.le s.σ ∧ RepV s.σ v' (vCells v' s.q.la s.q.lc s.q.ma s.q.mc)) ?_ (fun s ⟨hle, hq2⟩ => ?_)
    · refine cj_drawG 11 [1, 2, 3, 5, 6, 7, 10] mixed (by kernel_rfl) rfl ?_
      refine gj_val (i := 0) TT rfl (by kernel_rfl) (by kernel_rfl) rfl rfl rfl rfl rfl ?_
      refine gj_val (i := 1) TT rfl (by kernel_rfl) (by kernel_rfl) rfl rfl rfl rfl rfl ?_
      refine gj_slice (i := 2) TT 1 N rfl rfl (by kernel_rfl) (by kernel_rfl) rfl rfl rfl rfl rfl rfl rfl rfl rfl rfl (.inr ⟨_, _, rfl, rfl⟩) (.inl ⟨rfl, rfl⟩) (by omega) S.ncap S.ncap ?_
      refine gj_val (i := 3) TT rfl (by kernel_rfl) (by kernel_rfl) rfl rfl rfl rfl rfl ?_
      refine gj_two (i := 4) (j := 8) (by kernel_rfl) ?_ ?_
      · refine gk_call rfl rfl rfl rfl rfl Tryd.call108 ⟨vCells_lt _ _ _ _ _ _, trivial, hflt 0, trivial⟩ hrec fun v σ2 hle2 ⟨r2, hv, hrep⟩ => ⟨.tup [.agg r2, .a (.v (.int .i64 0))], SV.lt_tup ⟨hrep.clo, trivial, trivial⟩, hv.symm, ?_⟩
        obtain ⟨la2, lc2, lrows2, ma2, mc2, vrows2, rfl, V2⟩ := hrep.open
        refine gj_order [(5,.pure),(6,.pure),(7,.pure),(8,.keep),(9,.sink),(10,.pure)] rfl rfl (by kernel_rfl) ?_
        refine oj_run TT rfl ?_
        (repeat refine oj_nil ?_)
        refine nj_again (⟨σ2, ⟨la2, lc2, ma2, mc2⟩⟩ : CellS) ⟨hle2, V2.rep⟩ Nat.zero_lt_one rfl (by (repeat (first | exact trivial | refine And.intro rfl ?_))) (by (repeat (first | exact trivial | refine And.intro rfl ?_))) rfl (by (repeat' (first | exact trivial | exact Nat.le_of_ble_eq_true rfl | constructor))) (by (repeat' (first | exact trivial | exact Nat.le_of_ble_eq_true rfl | exact vCells_lt _ _ _ _ _ _ | refine AllLt.of ?_ | constructor)))
      · refine gk_new TT rfl rfl rfl rfl rfl ?_
        refine gj_order [(4,.keep),(5,.pure),(6,.pure),(7,.pure),(9,.sink),(10,.pure)] rfl rfl (by kernel_rfl) ?_
        refine oj_callS rfl rfl rfl rfl rfl Tryd.call108 ⟨vCells_lt _ _ _ _ _ _, trivial, hflt 0, trivial⟩ hrec fun v σ2 hle2 ⟨r2, hv, hrep⟩ => ⟨.tup [.agg r2, .a (.v (.int .i64 0))], SV.lt_tup ⟨hrep.clo, trivial, trivial⟩, hv.symm, ?_⟩
        obtain ⟨la2, lc2, lrows2, ma2, mc2, vrows2, rfl, V2⟩ := hrep.open
        refine oj_run TT rfl ?_
        (repeat refine oj_nil ?_)
        refine nj_again (⟨σ2, ⟨la2, lc2, ma2, mc2⟩⟩ : CellS) ⟨hle2, V2.rep⟩ Nat.zero_lt_one rfl (by (repeat (first | exact trivial | refine And.intro rfl ?_))) (by (repeat (first | exact trivial | refine And.intro rfl ?_))) rfl (by (repeat' (first | exact trivial | exact Nat.le_of_ble_eq_true rfl | constructor))) (by (repeat' (first | exact trivial | exact Nat.le_of_ble_eq_true rfl | exact vCells_lt _ _ _ _ _ _ | refine AllLt.of ?_ | constructor)))
    obtain ⟨σ2, la2, lc2, ma2, mc2⟩ := s
    dsimp only at hle hq2 ⊢
    obtain ⟨la3, lc3, lrows3, ma3, mc3, vrows3, hcc2, V2⟩ := hq2.open
    rw [hcc2]
    have V0 := V.monoC hle.cle
    have S0 := S.mono hle
    (repeat (first | refine cj_seq ?_ | (refine cj_region ?_; refine oj_run TT rfl ?_) | refine oj_then ?_))
    refine cj_if rfl (fun h => absurd h (by decide)) (fun _ => ?_)
    (repeat (first | refine cj_seq ?_ | refine cj_skip ?_ | refine nj_then ?_))
    refine cj_draw [(0,.quiet),(1,.pure),(2,.pure),(3,.quiet),(4,.quiet),(5,.keep),(6,.sink),(7,.pure)] mixed (by kernel_rfl) (oj_run TT rfl ?_)
    refine oj_idx TT rfl rfl rfl rfl rfl rfl rfl rfl rfl S0 (by omega) hrow0 (oj_run TT rfl ?_)
    refine oj_callS rfl rfl rfl rfl rfl Tryd.call110 ⟨vCells_lt _ _ _ _ _ _, (by (repeat' (first | exact trivial | refine AllLt.of ?_ | constructor))), vCells_lt _ _ _ _ _ _, trivial⟩ (hlay σ2 V0 v' la3 lc3 lrows3 ma3 mc3 vrows3 V2) fun v σ3 hle3 ⟨r3, hv, hrep⟩ => ⟨.agg r3, hrep.clo, hv.symm, ?_⟩
    obtain ⟨la4, lc4, lrows4, ma4, mc4, vrows4, rfl, V4⟩ := hrep.open
    refine oj_run TT rfl ?_
    (repeat (first | refine oj_then ?_ | refine cj_ret ?_))
    refine nj_ret TT rfl fun β w' _ _ => ?_
    exact ⟨_, rfl, V4.rep⟩

/-! ### Put -/

theorem Swap.unsnoc {g g' : GVal} {P : List GStep} {h h' : GVal} (hs : Swap g g' P h h') : P ≠ [] → ∃ P' hp m y, P = P' ++ [stepOf m y] ∧ (its hp)[m]? = some y ∧ y.v = h ∧ Swap g g' P' hp (setIt hp m h') := by
  induction hs with
  | refl => exact fun h => absurd rfl h
  | @step g v' m x P h h' hx hs ih =>
    intro _
    by_cases hP : P = []
    · subst hP
      generalize hy : x.v = y at hs
      cases hs
      exact ⟨[], g, m, x, rfl, hx, hy, .refl _ _⟩
    · obtain ⟨P', hp, m', y, e1, e2, e3, e4⟩ := ih hP
      exact ⟨stepOf m x :: P', hp, m', y, by rw [e1]; rfl, e2, e3, .step hx e4⟩
theorem Swap.keeps {g g' : GVal} {P : List GStep} {h h' : GVal} (hs : Swap g g' P h h') : g.wf → keysOk g → h.wf ∧ keysOk h ∧ h.weight ≤ g.weight := by
  induction hs with
  | refl => exact fun h1 h2 => ⟨h1, h2, Nat.le_refl _⟩
  | @step g v' m x P h h' hx hs ih =>
    intro hw hk
    have hm := List.mem_of_getElem? hx
    obtain ⟨a1, a2, a3⟩ := ih (its_wf hw hm) (its_keys hw hk hm)
    have := in_weight (its_mem hw hm)
    exact ⟨a1, a2, by omega⟩

set_option maxRecDepth 100000 in
set_option maxHeartbeats 1000000 in
theorem put1_c (σ : Snap) (gx : Nat) (x : GVal) (xla : Option Addr) (xlc : Nat) (xlrows : List (List AT)) (xma : Option Addr) (xmc : Nat) (xvrows : List (List AT)) (X : VAt σ x xla xlc xlrows xma xmc xvrows) (hgx : ∀ (j : Nat) c, (vCells x xla xlc xma xmc)[j]? = some c → σ.cell ⟨gx, j, none⟩ = some c.val)
    (hp : GVal) (hw : hp.weight ≤ 1000000) (hk : keysOk hp) {m : Nat} {y : Itm} (hy : (its hp)[m]? = some y) : DoOk 109 [ptrTo gx] σ hp (setIt hp m x) (stepOf m y) := by
  intro σ' hle la lc lrows ma mc vrows V
  have hlay := lay_c σ' hp la lc lrows ma mc vrows V hw hk hy x xla xlc _ xma xmc _ (X.monoC hle.cle)
  generalize stepOf m y = s at *
  refine enter_s Tryd.func109 rfl rfl ⟨vCells_lt _ _ _ _ _ _, (by (repeat' (first | exact trivial | refine AllLt.of ?_ | constructor))), trivial, trivial, trivial⟩ fun w => ?_
  (repeat (first | refine cj_seq ?_ | (refine cj_region ?_; refine oj_run TT rfl ?_) | refine oj_then ?_ | refine cj_if_t rfl ?_ | refine cj_block ?_))
  refine oj_row 3 (vCells x xla xlc xma xmc) rfl (vCells_lt _ _ _ _ _ _) (fun j c hj => by rw [add0]; exact hle.cell (hgx j c hj)) (oj_run TT rfl ?_)
  refine oj_callS rfl rfl rfl rfl rfl Tryd.call110 ⟨vCells_lt _ _ _ _ _ _, (by (repeat' (first | exact trivial | refine AllLt.of ?_ | constructor))), vCells_lt _ _ _ _ _ _, trivial⟩ hlay fun v σ3 hle3 ⟨r3, hv, hrep⟩ => ⟨.agg r3, hrep.clo, hv.symm, ?_⟩
  obtain ⟨la4, lc4, lrows4, ma4, mc4, vrows4, rfl, V4⟩ := hrep.open
  refine oj_run TT rfl ?_
  (repeat (first | refine oj_then ?_ | refine cj_ret ?_ | refine nj_then_ret ?_ | refine nj_block_ret ?_))
  refine nj_ret TT rfl fun β w' _ _ => ?_
  exact ⟨_, rfl, V4.rep⟩

set_option maxRecDepth 100000 in
set_option maxHeartbeats 1000000 in
theorem Put_c (σ : Snap) (g : GVal) (la : Option Addr) (lc : Nat) (lrows : List (List AT)) (ma : Option Addr) (mc : Nat) (vrows : List (List AT)) (V : VAt σ g la lc lrows ma mc vrows) (hw : g.weight ≤ 1000000) (hk : keysOk g) (hd : kinds g)
    (x : GVal) (xla : Option Addr) (xlc : Nat) (xlrows : List (List AT)) (xma : Option Addr) (xmc : Nat) (xvrows : List (List AT)) (X : VAt σ x xla xlc xlrows xma xmc xvrows) {g' h : GVal} {P : List GStep} (hsw : Swap g g' P h x) (hPl : P.length ≤ 1000000) (so : Option Addr) (sc : Nat) (S : SlAt σ so P.length sc 3 (stepRows P)) :
    PureS Tryd.prog 65 [.agg (vCells g la lc ma mc), .a (.v (.slice so P.length sc)), .agg (vCells x xla xlc xma xmc)] σ (fun v σ' => ∃ r, v = (SV.tup [.agg r, .a (.v (.int .i64 0))]).den β0 ∧ RepV σ' g' r) := by
  refine enter_s Tryd.func65 rfl rfl ⟨vCells_lt _ _ _ _ _ _, trivial, vCells_lt _ _ _ _ _ _, trivial⟩ fun w => ?_
  (repeat (first | refine cj_seq ?_ | (refine cj_region ?_; refine oj_run TT rfl ?_) | refine oj_then ?_))
  refine cj_if rfl (fun h0 => ?_) (fun h0 => ?_)
  · have h0 := of_decide_eq_true (show decide ((P.length : Int) = 0) = true from h0)
    have hP : P = [] := List.eq_nil_of_length_eq_zero (by omega)
    subst hP
    cases hsw
    (repeat (first | refine cj_seq ?_ | (refine cj_region ?_; refine oj_run TT rfl ?_) | refine oj_then ?_ | refine cj_ret ?_ | refine nj_then_ret ?_))
    refine nj_ret TT rfl fun β w' _ _ => ?_
    exact ⟨_, rfl, X.rep⟩
  have h0 := of_decide_eq_false (show decide ((P.length : Int) = 0) = false from h0)
  obtain ⟨P', hp, m, y, e1, e2, e3, e4⟩ := hsw.unsnoc (fun e => h0 (by rw [e]; rfl))
  obtain ⟨k1, k2, k3⟩ := e4.keeps V.rep.wf hk
  refine cj_skip ?_
  refine nj_then ?_
  refine cj_own 1 1 8 rfl (by (repeat' exact vCells_lt _ _ _ _ _ _)) rfl (by decide) fun gx => ?_
  refine cj_seal 0 rfl rfl fun σ1 hle1 hS => ?_
  have hgx : ∀ (j : Nat) c, (vCells x xla xlc xma xmc)[j]? = some c → σ1.cell ⟨gx, j, none⟩ = some c.val := fun j c hj => by
    rcases hS with ⟨h, _⟩ | ⟨g', h1, h2⟩
    · cases h
    · obtain rfl : gx = g' := by simpa using h1
      exact h2 j _ (by show (List.map AT.val (vCells x xla xlc xma xmc))[j]? = _; rw [List.getElem?_map, hj]; rfl)
  have hN : P.length = P'.length + 1 := by rw [e1]; simp
  have hat := vat_c 109 [ptrTo gx] ⟨trivial, trivial⟩ Tryd.call109 P' σ1 g g' hp (setIt hp m x) m y e4 V.rep.wf hk hd hw (by omega) e2 (put1_c σ1 gx x xla xlc xlrows xma xmc xvrows (X.monoC hle1.cle) hgx hp (by omega) k2 e2) la lc lrows ma mc vrows (V.monoC hle1.cle) so P.length sc hN (by rw [← e1]; exact S.mono hle1)
  (repeat (first | refine cj_seq ?_ | (refine cj_region ?_; refine oj_run TT rfl ?_)))
  refine oj_callS rfl rfl rfl rfl rfl Tryd.call108 ⟨vCells_lt _ _ _ _ _ _, trivial, fn_lt1 (.func 109) gx 0, trivial⟩ hat fun v σ3 hle3 ⟨r3, hv, hrep⟩ => ⟨.tup [.agg r3, .a (.v (.int .i64 0))], SV.lt_tup ⟨hrep.clo, trivial, trivial⟩, hv.symm, ?_⟩
  obtain ⟨la4, lc4, lrows4, ma4, mc4, vrows4, rfl, V4⟩ := hrep.open
  refine oj_run TT rfl ?_
  (repeat (first | refine oj_then ?_ | refine cj_ret ?_))
  refine nj_ret TT rfl fun β w' _ _ => ?_
  exact ⟨_, rfl, V4.rep⟩
end Go.Sy
namespace Go.Sy
open Go.Proofs

/-! ### value.Drop -/

theorem RepL.eraseIdx {σ : Snap} : ∀ {gs : List GVal} {rs : List (List AT)} (k : Nat), RepL σ gs rs → RepL σ (gs.eraseIdx k) (rs.eraseIdx k)
  | [], rs, k, h => by
    simp only [RepL] at h
    subst h
    exact rfl
  | g :: gs, rs, 0, h => by
    simp only [RepL] at h
    obtain ⟨r0, rs', rfl, h2, h3⟩ := h
    exact h3
  | g :: gs, rs, k + 1, h => by
    simp only [RepL] at h
    obtain ⟨r0, rs', rfl, h2, h3⟩ := h
    exact ⟨r0, _, rfl, h2, RepL.eraseIdx k h3⟩
theorem keyRows_erase : ∀ (ks : List ByteArray) (rs : List (List AT)) (k : Nat), ks.length = rs.length → keyRows (ks.eraseIdx k) (rs.eraseIdx k) = (keyRows ks rs).eraseIdx k
  | [], [], _, _ => rfl
  | x :: ks, q :: rs, 0, _ => rfl
  | x :: ks, q :: rs, k + 1, h => by
    simp only [List.eraseIdx_cons_succ, keyRows]
    rw [keyRows_erase ks rs k (by simpa using h)]
  | [], _ :: _, _, h => by simp at h
  | _ :: _, [], _, h => by simp at h

set_option maxRecDepth 100000 in
set_option maxHeartbeats 1000000 in
theorem drop1_c (σ : Snap) (hp : GVal) (hw : hp.weight ≤ 1000000) (hk : keysOk hp) {m : Nat} {y : Itm} (hy : (its hp)[m]? = some y) : DoOk 113 [] σ hp (delIt hp m) (stepOf m y) := by
  intro σ' hle la lc lrows ma mc vrows V
  have hil := in_len hp
  have hkv := V.kv
  have hvl := V.vlen
  have hll := V.l.len
  rcases its_split hy with ⟨h1, h2, h3⟩ | ⟨h1, h2, h3, h4⟩
  · have hst : stepOf m y = ⟨y.name, (m : Int), false⟩ := by unfold stepOf; rw [h1]; rfl
    have hdel : delIt hp m = .mk hp.kind hp.b hp.n hp.s (hp.l.eraseIdx m) hp.ks hp.vs := by unfold delIt; rw [if_pos h2]
    rw [hst, hdel]
    have hrall : ∀ r ∈ lrows, r.length = 8 ∧ r.all AT.one = true := fun r hr => ⟨(V.l.rows r hr).1, (V.l.rows r hr).2.2⟩
    refine enter_s Tryd.func113 rfl rfl ⟨vCells_lt _ _ _ _ _ _, (by unfold stepCells; (repeat' (first | exact trivial | refine AllLt.of ?_ | constructor))), trivial, trivial⟩ fun w => ?_
    (repeat (first | refine cj_seq ?_ | (refine cj_region ?_; refine oj_run TT rfl ?_) | refine oj_then ?_ | refine cj_if_f rfl ?_ | refine cj_block ?_))
    refine cj_if rfl (fun h => absurd (show false = true from h) (by decide)) (fun _ => ?_)
    refine cj_drawW [(0,.pure),(1,.quiet),(3,.pure),(4,.quiet),(5,.pure),(6,.quiet),(7,.pure),(2,.keep),(8,.keep),(9,.pure),(10,.sink)] (fun β w => ∃ σ'' A'', StW _ σ'' _ A'' β w) (fun β w h => ⟨_, _, h⟩) mixed (by kernel_rfl) ?_
    refine ow_pure TT rfl rfl rfl rfl rfl rfl ?_
    refine ow_loadE TT _ (fun _ _ h => h) (fun _ _ h => h) rfl rfl rfl rfl rfl ?_
    refine ow_pure TT rfl rfl rfl rfl rfl rfl ?_
    refine ow_loadE TT _ (fun _ _ h => h) (fun _ _ h => h) rfl rfl rfl rfl rfl ?_
    refine ow_pure TT rfl rfl rfl rfl rfl rfl ?_
    refine ow_loadE TT _ (fun _ _ h => h) (fun _ _ h => h) rfl rfl rfl rfl rfl ?_
    refine ow_add rfl rfl rfl rfl rfl rfl rfl (by show -9223372036854775808 ≤ (m : Int) + 1 ∧ (m : Int) + 1 ≤ 9223372036854775807; omega) ?_
    refine ow_call [] (A0 := []) (Ar := []) rfl rfl rfl rfl rfl rfl rfl Tryd.call112 (by (repeat' (first | exact trivial | constructor))) (cloneV_c σ' la hp.l.length lc lrows V.L (by omega) fun r hr => (V.l.rows r hr).2.2) fun v σ1 A1 hle1 ⟨bo, bc, hv, hbc, hA⟩ => ⟨fun _ _ h => ⟨_, _, h⟩, .a (.v (.slice bo hp.l.length bc)), trivial, hv.symm, ?_⟩
    subst hA
    have hdl := DeleteVal_c σ1 lrows hrall (by omega) bo bc (by omega) m (m + 1) (by omega) (by omega)
    rw [hll] at hdl
    refine ow_call [0] (A0 := [⟨bo, hp.l.length, bc, 27, 8, lrows.flatten.map AT.val⟩]) (Ar := []) rfl rfl rfl rfl rfl rfl rfl Tryd.call116 (by (repeat' (first | exact trivial | constructor))) hdl fun v σ2 A2 hle2 ⟨hv, hA⟩ => ⟨fun _ _ h => ⟨_, _, h⟩, .a (.v (.slice bo (m + (hp.l.length - (m + 1))) bc)), trivial, hv.symm, ?_⟩
    subst hA
    refine ow_pure TT rfl rfl rfl rfl rfl rfl ?_
    refine ow_end rfl (fun _ _ h => ⟨_, _, h⟩) ?_
    refine oj_run TT rfl ?_
    (repeat (first | refine cj_seq ?_ | (refine cj_region ?_; refine oj_run TT rfl ?_) | refine oj_then ?_ | refine oj_nil ?_ | refine cj_ret ?_ | refine nj_then ?_ | refine nj_block ?_))
    refine nj_seal 0 rfl rfl fun σ3 hle3 hS => ?_
    refine nj_ret TT rfl fun β w' _ _ => ?_
    have hle4 := Snap.le_trans (Snap.le_trans hle1 hle2) hle3
    have hrr : lrows.take m ++ lrows.drop (m + 1) = lrows.eraseIdx m := (List.eraseIdx_eq_take_drop_succ ..).symm
    have hR2 : RepL σ3 (hp.l.eraseIdx m) (lrows.eraseIdx m) := (RepL.eraseIdx m V.l).mono hle4
    have hel : (hp.l.eraseIdx m).length = m + (hp.l.length - (m + 1)) := by rw [List.length_eraseIdx, if_pos h2]; omega
    have hS1 : SlAt σ3 bo (m + (hp.l.length - (m + 1))) bc 8 (lrows.eraseIdx m) := hS.sl (by rw [← hrr]) (fun r hr => ⟨(hR2.rows r hr).1, (hR2.rows r hr).2.1⟩) (by rw [List.length_eraseIdx, if_pos (by omega)]; omega) rfl (show m + (hp.l.length - (m + 1)) ≤ bc by omega)
    refine ⟨[.v (.int .i64 hp.kind), .b hp.b, .b hp.n.neg, .v (.string hp.n.dg), .v (.int .i64 hp.n.ex), .v (.string hp.s), .v (.slice bo (m + (hp.l.length - (m + 1))) bc), .v (.slice ma hp.ks.length mc)], rfl, ?_⟩
    simp only [RepV]
    rw [hel]
    exact ⟨bo, bc, _, ma, mc, vrows, rfl, hS1, hR2, hkv, V.M.mono hle4, V.v.mono hle4, V.dg, V.s, by simp only [mostLen]; omega, V.kl, V.kk⟩
  · have hst : stepOf m y = ⟨y.name, 0, true⟩ := by unfold stepOf; rw [h1]; rfl
    have hdel : delIt hp m = .mk hp.kind hp.b hp.n hp.s hp.l (hp.ks.eraseIdx (m - hp.l.length)) (hp.vs.eraseIdx (m - hp.l.length)) := by unfold delIt; rw [if_neg (by omega)]
    rw [hst, hdel]
    have hpl := placeM_at h3 ((keysOk_eq hp).1 hk).1
    generalize m - hp.l.length = q at *
    have hql := (List.getElem?_eq_some_iff.1 h3).1
    have hkall := keyRows_all V.v hkv
    have hkl := keyRows_len (ks := hp.ks) (rs := vrows) (by omega)
    refine enter_s Tryd.func113 rfl rfl ⟨vCells_lt _ _ _ _ _ _, (by unfold stepCells; (repeat' (first | exact trivial | refine AllLt.of ?_ | constructor))), trivial, trivial⟩ fun w => ?_
    (repeat (first | refine cj_seq ?_ | (refine cj_region ?_; refine oj_run TT rfl ?_) | refine oj_then ?_ | refine cj_if_f rfl ?_ | refine cj_block ?_))
    refine cj_if rfl (fun _ => ?_) (fun h => absurd (show true = false from h) (by decide))
    (repeat (first | refine cj_seq ?_ | (refine cj_region ?_; refine oj_run TT rfl ?_)))
    refine oj_callP rfl rfl rfl rfl rfl Tryd.call114 (by (repeat' (first | exact trivial | constructor))) (placeM_c σ' hp.ks hp.vs vrows hkv V.v (by omega) ma mc V.M y.name) fun v hv => ⟨.a (.v (.int .i64 q)), trivial, (by rw [hv, hpl]; rfl), ?_⟩
    refine oj_run TT rfl ?_
    (repeat (first | (refine cj_region ?_; refine oj_run TT rfl ?_) | refine oj_then ?_))
    refine oj_callF [] (A0 := []) (Ar := []) rfl rfl rfl rfl rfl rfl rfl Tryd.call111 (by (repeat' (first | exact trivial | constructor))) (cloneM_c σ' ma hp.ks.length mc (keyRows hp.ks vrows) V.M (by omega) fun r hr => (hkall r hr).2.2) fun v σ1 A1 hle1 ⟨bo, bc, hv, hbc, hA⟩ => ⟨.a (.v (.slice bo hp.ks.length bc)), trivial, hv.symm, ?_⟩
    subst hA
    refine oj_run TT rfl ?_
    have hdl := DeleteMem_c σ1 (keyRows hp.ks vrows) (fun r hr => ⟨(hkall r hr).1, (hkall r hr).2.2⟩) (by omega) bo bc (by omega) q (q + 1) (by omega) (by omega)
    rw [hkl] at hdl
    refine oj_add rfl rfl rfl rfl rfl rfl (by omega) (oj_run TT rfl ?_)
    refine oj_callF [0] (A0 := [⟨bo, hp.ks.length, bc, 125, 9, (keyRows hp.ks vrows).flatten.map AT.val⟩]) (Ar := []) rfl rfl rfl rfl rfl rfl rfl Tryd.call115 (by (repeat' (first | exact trivial | constructor))) hdl fun v σ2 A2 hle2 ⟨hv, hA⟩ => ⟨.a (.v (.slice bo (q + (hp.ks.length - (q + 1))) bc)), trivial, hv.symm, ?_⟩
    subst hA
    refine oj_run TT rfl ?_
    (repeat (first | refine cj_seq ?_ | (refine cj_region ?_; refine oj_run TT rfl ?_) | refine oj_then ?_ | refine oj_nil ?_ | refine cj_ret ?_ | refine nj_then ?_ | refine nj_block ?_))
    refine nj_seal 0 rfl rfl fun σ3 hle3 hS => ?_
    refine nj_ret TT rfl fun β w' _ _ => ?_
    have hle4 := Snap.le_trans (Snap.le_trans hle1 hle2) hle3
    have hrr : (keyRows hp.ks vrows).take q ++ (keyRows hp.ks vrows).drop (q + 1) = keyRows (hp.ks.eraseIdx q) (vrows.eraseIdx q) := by rw [keyRows_erase _ _ _ (by omega)]; exact (List.eraseIdx_eq_take_drop_succ ..).symm
    have hR2 : RepL σ3 (hp.vs.eraseIdx q) (vrows.eraseIdx q) := (RepL.eraseIdx q V.v).mono hle4
    have hek : (hp.ks.eraseIdx q).length = q + (hp.ks.length - (q + 1)) := by rw [List.length_eraseIdx, if_pos hql]; omega
    have hev : (hp.vs.eraseIdx q).length = q + (hp.ks.length - (q + 1)) := by rw [List.length_eraseIdx, if_pos (by omega)]; omega
    have hka2 := keyRows_all hR2 (ks := hp.ks.eraseIdx q) (by rw [hek, hev])
    have hS1 : SlAt σ3 bo (q + (hp.ks.length - (q + 1))) bc 9 (keyRows (hp.ks.eraseIdx q) (vrows.eraseIdx q)) := hS.sl (by rw [← hrr]) (fun r hr => ⟨(hka2 r hr).1, (hka2 r hr).2.1⟩) (by rw [keyRows_len (by rw [hek, List.length_eraseIdx, if_pos (by omega)]; omega), hek]) rfl (show q + (hp.ks.length - (q + 1)) ≤ bc by omega)
    refine ⟨[.v (.int .i64 hp.kind), .b hp.b, .b hp.n.neg, .v (.string hp.n.dg), .v (.int .i64 hp.n.ex), .v (.string hp.s), .v (.slice la hp.l.length lc), .v (.slice bo (q + (hp.ks.length - (q + 1))) bc)], rfl, ?_⟩
    simp only [RepV]
    rw [hek]
    exact ⟨la, lc, lrows, bo, bc, _, rfl, V.L.mono hle4, V.l.mono hle4, hev.symm, hS1, hR2, V.dg, V.s, V.ll, by simp only [mostLen]; omega, fun k hk => V.kk k (List.mem_of_mem_eraseIdx hk)⟩

set_option maxRecDepth 100000 in
set_option maxHeartbeats 1000000 in
theorem Drop_c (σ : Snap) (g : GVal) (la : Option Addr) (lc : Nat) (lrows : List (List AT)) (ma : Option Addr) (mc : Nat) (vrows : List (List AT)) (V : VAt σ g la lc lrows ma mc vrows) (hw : g.weight ≤ 1000000) (hk : keysOk g) (hd : kinds g)
    {g' hp : GVal} {P' P : List GStep} {m : Nat} {y : Itm} (hP : P = P' ++ [stepOf m y]) (hy : (its hp)[m]? = some y) (hsw : Swap g g' P' hp (delIt hp m)) (hPl : P.length ≤ 1000000) (so : Option Addr) (sc : Nat) (S : SlAt σ so P.length sc 3 (stepRows P)) :
    PureS Tryd.prog 67 [.agg (vCells g la lc ma mc), .a (.v (.slice so P.length sc))] σ (fun v σ' => ∃ r, v = (SV.tup [.agg r, .a (.v (.int .i64 0))]).den β0 ∧ RepV σ' g' r) := by
  have hN : P.length = P'.length + 1 := by rw [hP]; simp
  obtain ⟨k1, k2, k3⟩ := hsw.keeps V.rep.wf hk
  have hat := vat_c 113 [] trivial Tryd.call113 P' σ g g' hp (delIt hp m) m y hsw V.rep.wf hk hd hw (by omega) hy (drop1_c σ hp (by omega) k2 hy) la lc lrows ma mc vrows V so P.length sc hN (by rw [← hP]; exact S)
  refine enter_s Tryd.func67 rfl rfl ⟨vCells_lt _ _ _ _ _ _, trivial, trivial⟩ fun w => ?_
  (repeat (first | refine cj_seq ?_ | (refine cj_region ?_; refine oj_run TT rfl ?_) | refine oj_then ?_))
  refine cj_if rfl (fun h0 => ?_) (fun _ => ?_)
  · have h0 := of_decide_eq_true (show decide ((P.length : Int) = 0) = true from h0)
    omega
  (repeat (first | refine cj_seq ?_ | (refine cj_region ?_; refine oj_run TT rfl ?_) | refine cj_skip ?_ | refine nj_then ?_))
  refine oj_callS rfl rfl rfl rfl rfl Tryd.call108 ⟨vCells_lt _ _ _ _ _ _, trivial, SV.lt_fn0, trivial⟩ hat fun v σ3 hle3 ⟨r3, hv, hrep⟩ => ⟨.tup [.agg r3, .a (.v (.int .i64 0))], SV.lt_tup ⟨hrep.clo, trivial, trivial⟩, hv.symm, ?_⟩
  obtain ⟨la4, lc4, lrows4, ma4, mc4, vrows4, rfl, V4⟩ := hrep.open
  refine oj_run TT rfl ?_
  (repeat (first | refine oj_then ?_ | refine cj_ret ?_))
  refine nj_ret TT rfl fun β w' _ _ => ?_
  exact ⟨_, rfl, V4.rep⟩
end Go.Sy
namespace Go.Sy
open Go.Proofs

/-! ### Records compared -/

theorem und36 : Tryd.prog.underlying 36 = some (.struct (Tryd.prog.fieldsOf 36)) := by kernel_rfl
theorem run_partA {P : Program} {w : World} {t : TypeId} {xs : Array Value} {o n : Nat} {d : TypeDesc} (hu : P.underlying t = some d) (hd : aggD d = true) (hn : P.cellsOf t = n) : (part t xs o).run P w = .ok (.agg (xs.extract o (o + n))) w := by
  simp only [part, Sem.run_bind, run_isAgg hu, hd, Result.andThen_ok, if_true, run_sizeB hn hu, Sem.run_pure]

def recVals (r : GRec) : Array Value := #[.int .i64 r.st, .int .i64 r.en, .int .i64 r.lv, .int .i64 r.kd, .bool r.nm, .string r.name, .bool r.b, .bool r.n.neg, .string r.n.dg, .int .i64 r.n.ex, .string r.s]

theorem eqRec_ok (m : Nat) (a b : GRec) (w : World) : (Op.equalIn (m + 1 + 1 + 1) 36 (.agg (recVals a)) (.agg (recVals b))).run Tryd.prog w = .ok (decide (a = b)) w := by
  rw [run_equalIn_agg w (m + 1 + 1) 36 _ _ und36 (by kernel_rfl)]
  have h : fieldsAre (Tryd.prog.fieldsOf 36).toList [(3, 0), (3, 1), (3, 2), (3, 3), (4, 4), (9, 5), (4, 6), (23, 7), (9, 10)] = true := by kernel_rfl
  generalize (Tryd.prog.fieldsOf 36).toList = fl at h
  obtain ⟨f0, fl, rfl, n0, t0, o0, h⟩ := fieldsAre_cons h
  obtain ⟨f1, fl, rfl, n1, t1, o1, h⟩ := fieldsAre_cons h
  obtain ⟨f2, fl, rfl, n2, t2, o2, h⟩ := fieldsAre_cons h
  obtain ⟨f3, fl, rfl, n3, t3, o3, h⟩ := fieldsAre_cons h
  obtain ⟨f4, fl, rfl, n4, t4, o4, h⟩ := fieldsAre_cons h
  obtain ⟨f5, fl, rfl, n5, t5, o5, h⟩ := fieldsAre_cons h
  obtain ⟨f6, fl, rfl, n6, t6, o6, h⟩ := fieldsAre_cons h
  obtain ⟨f7, fl, rfl, n7, t7, o7, h⟩ := fieldsAre_cons h
  obtain ⟨f8, fl, rfl, n8, t8, o8, h⟩ := fieldsAre_cons h
  cases fl with
  | cons _ _ => cases h
  | nil =>
    have ii : ∀ (f : Field) (o : Nat) (r : GRec) (x : Int), f.type = 3 → f.offset = o → (recVals r)[o]? = some (.int .i64 x) → (part f.type (recVals r) f.offset).run Tryd.prog w = .ok (.int .i64 x) w := fun f o r x ht ho hx => run_part1 (by rw [ht]; exact und3) rfl (by rw [ho]; exact hx)
    have bb : ∀ (f : Field) (o : Nat) (r : GRec) (x : Bool), f.type = 4 → f.offset = o → (recVals r)[o]? = some (.bool x) → (part f.type (recVals r) f.offset).run Tryd.prog w = .ok (.bool x) w := fun f o r x ht ho hx => run_part1 (by rw [ht]; exact und4) rfl (by rw [ho]; exact hx)
    have ss : ∀ (f : Field) (o : Nat) (r : GRec) (x : ByteArray), f.type = 9 → f.offset = o → (recVals r)[o]? = some (.string x) → (part f.type (recVals r) f.offset).run Tryd.prog w = .ok (.string x) w := fun f o r x ht ho hx => run_part1 (by rw [ht]; exact und9) rfl (by rw [ho]; exact hx)
    have dd : ∀ (r : GRec), (part f7.type (recVals r) f7.offset).run Tryd.prog w = .ok (.agg #[.bool r.n.neg, .string r.n.dg, .int .i64 r.n.ex]) w := fun r => by
      rw [run_partA (n := 3) (by rw [t7]; exact und23) rfl (by rw [t7]; kernel_rfl), o7]
      rfl
    rw [eqFields_cons (r := a.st == b.st) n0 (ii f0 0 a _ t0 o0 rfl) (ii f0 0 b _ t0 o0 rfl) (run_equalIn_int w (m + 1) f0.type .i64 .i64 a.st b.st (by rw [t0]; exact und3))]
    rw [eqFields_cons (r := a.en == b.en) n1 (ii f1 1 a _ t1 o1 rfl) (ii f1 1 b _ t1 o1 rfl) (run_equalIn_int w (m + 1) f1.type .i64 .i64 a.en b.en (by rw [t1]; exact und3))]
    rw [eqFields_cons (r := a.lv == b.lv) n2 (ii f2 2 a _ t2 o2 rfl) (ii f2 2 b _ t2 o2 rfl) (run_equalIn_int w (m + 1) f2.type .i64 .i64 a.lv b.lv (by rw [t2]; exact und3))]
    rw [eqFields_cons (r := a.kd == b.kd) n3 (ii f3 3 a _ t3 o3 rfl) (ii f3 3 b _ t3 o3 rfl) (run_equalIn_int w (m + 1) f3.type .i64 .i64 a.kd b.kd (by rw [t3]; exact und3))]
    rw [eqFields_cons (r := a.nm == b.nm) n4 (bb f4 4 a _ t4 o4 rfl) (bb f4 4 b _ t4 o4 rfl) (run_equalIn_bool' w (m + 1) f4.type a.nm b.nm (by rw [t4]; exact und4))]
    rw [eqFields_cons (r := decide (a.name = b.name)) n5 (ss f5 5 a _ t5 o5 rfl) (ss f5 5 b _ t5 o5 rfl) (run_eqStr (m + 1) f5.type a.name b.name (by rw [t5]; exact und9))]
    rw [eqFields_cons (r := a.b == b.b) n6 (bb f6 6 a _ t6 o6 rfl) (bb f6 6 b _ t6 o6 rfl) (run_equalIn_bool' w (m + 1) f6.type a.b b.b (by rw [t6]; exact und4))]
    rw [eqFields_cons (r := decide (a.n = b.n)) n7 (dd a) (dd b) (by rw [t7]; exact eqDec_ok m a.n b.n w)]
    rw [eqFields_cons (r := decide (a.s = b.s)) n8 (ss f8 10 a _ t8 o8 rfl) (ss f8 10 b _ t8 o8 rfl) (run_eqStr (m + 1) f8.type a.s b.s (by rw [t8]; exact und9))]
    simp only [Op.eqFields, Sem.run_pure]
    have : (decide (a = b)) = (a.st == b.st && (a.en == b.en && (a.lv == b.lv && (a.kd == b.kd && (a.nm == b.nm && (decide (a.name = b.name) && (a.b == b.b && (decide (a.n = b.n) && decide (a.s = b.s))))))))) := by
      rw [Bool.eq_iff_iff]
      cases a; cases b
      simp
    rw [this]
    cases (a.st == b.st) <;> cases (a.en == b.en) <;> cases (a.lv == b.lv) <;> cases (a.kd == b.kd) <;> cases (a.nm == b.nm) <;> cases decide (a.name = b.name) <;> cases (a.b == b.b) <;> cases decide (a.n = b.n) <;> cases decide (a.s = b.s) <;> rfl

section
variable {cf : Cf} {Q : Exit → Act → World → Prop} {σ : Snap} {env : Env} {hp : HP} {A : List AE} {nh : Nat} {it : Item} {rest : List Item}
/-- Two records compared. -/
theorem oj_eqRec {d : Nat} {x y : Operand} {yt : TypeId} (a b : GRec) (hP : cf.P = Tryd.prog)
    (hop : it.o.op = .binOp .eql 36 x y yt) (hd : it.o.dst = some d) (hg : guardVal it.guard env = some true) (hN : Nat.blt d cf.N = true) (hx : evalO env x = some (.agg (recCells a))) (hy : evalO env y = some (.agg (recCells b)))
    (hk : OJ cf rest Q σ ((d, .a (.b (decide (a = b)))) :: env) hp A nh) : OJ cf (it :: rest) Q σ env hp A nh := by
  refine oj_val (.a (.b (decide (a = b)))) hd hg hN trivial (fun _ ac β ha w => ?_) hk
  have h1 : ac.eval x = .agg (recVals a) := evalO_eval ha hx
  have h2 : ac.eval y = .agg (recVals b) := evalO_eval ha hy
  rw [hP]
  have hG : (eqGuard .eql 36 x y (.agg (recVals a)) (.agg (recVals b))).run Tryd.prog w = .ok () w := run_eqGuard_agg w _ _ _ _ _ _ (by kernel_rfl)
  have hE : (Op.equalIn 10000 36 (.agg (recVals a)) (.agg (recVals b))).run Tryd.prog w = .ok (decide (a = b)) w := eqRec_ok 9997 a b w
  have hB : (binOp .eql 36 (.agg (recVals a)) (.agg (recVals b))).run Tryd.prog w = .ok (.bool (decide (a = b))) w := by
    rw [run_eql_struct, hE]
    rfl
  simp only [execOp, hop, h1, h2, Sem.run_bind, hG, hB, Result.andThen_ok, Sem.run_pure]
  rfl
theorem oj_neRec {d : Nat} {x y : Operand} {yt : TypeId} (a b : GRec) (hP : cf.P = Tryd.prog)
    (hop : it.o.op = .binOp .neq 36 x y yt) (hd : it.o.dst = some d) (hg : guardVal it.guard env = some true) (hN : Nat.blt d cf.N = true) (hx : evalO env x = some (.agg (recCells a))) (hy : evalO env y = some (.agg (recCells b)))
    (hk : OJ cf rest Q σ ((d, .a (.b (!decide (a = b)))) :: env) hp A nh) : OJ cf (it :: rest) Q σ env hp A nh := by
  refine oj_val (.a (.b (!decide (a = b)))) hd hg hN trivial (fun _ ac β ha w => ?_) hk
  have h1 : ac.eval x = .agg (recVals a) := evalO_eval ha hx
  have h2 : ac.eval y = .agg (recVals b) := evalO_eval ha hy
  rw [hP]
  have hG : (eqGuard .neq 36 x y (.agg (recVals a)) (.agg (recVals b))).run Tryd.prog w = .ok () w := run_eqGuard_agg w _ _ _ _ _ _ (by kernel_rfl)
  have hE : (Op.equalIn 10000 36 (.agg (recVals a)) (.agg (recVals b))).run Tryd.prog w = .ok (decide (a = b)) w := eqRec_ok 9997 a b w
  have hB : (binOp .neq 36 (.agg (recVals a)) (.agg (recVals b))).run Tryd.prog w = .ok (.bool (!decide (a = b))) w := by
    rw [run_neq_struct, hE]
    rfl
  simp only [execOp, hop, h1, h2, Sem.run_bind, hG, hB, Result.andThen_ok, Sem.run_pure]
  rfl
end
end Go.Sy
namespace Go.Sy
open Go.Proofs

/-! ### EditsBack -/

def freshS : ByteArray := ⟨#[102, 114, 101, 115, 104]⟩

set_option maxRecDepth 100000 in
set_option maxHeartbeats 1000000 in
theorem EditsBack_c (σ : Snap) (g : GVal) (r : List AT) (x : GVal) (xr : List AT) (i k : Int) (hr : RepV σ g r) (hxr : RepV σ x xr) :
    PlainS Tryd.prog 14 [.agg r, .a (.v (.int .i64 i)), .a (.v (.int .i64 k)), .agg xr] σ (fun v => v = .bool true) := by
  obtain ⟨la, lc, lrows, ma, mc, vrows, rfl, V⟩ := hr.open
  obtain ⟨yla, ylc, ylrows, yma, ymc, yvrows, rfl, Y⟩ := hxr.open
  refine enter_p Tryd.func14 rfl rfl (by (repeat' (first | exact trivial | exact vCells_lt _ _ _ _ _ _ | constructor))) fun w => ?_
  (repeat (first | refine cj_seq ?_ | (refine cj_region ?_; refine oj_run TT rfl ?_) | refine oj_then ?_))
  refine oj_callS rfl rfl rfl rfl rfl Tryd.call60 (by (repeat' exact trivial)) (awake12_c σ) fun v σ0 hle0 hv => ⟨.a .tt, trivial, hv.symm, ?_⟩
  have V := V.monoC hle0.cle
  have Y := Y.monoC hle0.cle
  refine oj_run TT rfl ?_
  (repeat (first | refine cj_seq ?_ | (refine cj_region ?_; refine oj_run TT rfl ?_) | refine oj_then ?_))
  refine oj_callP rfl rfl rfl rfl rfl Tryd.call19 (by (repeat' (first | exact trivial | exact vCells_lt _ _ _ _ _ _ | constructor))) (Few_c σ0 g _ 800 V.rep (by omega) (by omega)) fun v ⟨fb, hv, hfew⟩ => ⟨.a (.b fb), trivial, hv.symm, ?_⟩
  refine oj_run TT rfl ?_
  skip
  refine oj_split 25 rfl (fun h => ?_) (fun h => ?_)
  · refine oj_run TT rfl ?_
    (repeat (first | refine cj_seq ?_ | (refine cj_region ?_; refine oj_run TT rfl ?_) | refine oj_then ?_ | refine cj_if_t rfl ?_ | refine cj_ret ?_ | refine nj_then_ret ?_))
    refine nj_ret TT rfl fun β w' _ _ => ?_
    rfl
  have hw : g.weight ≤ 800 := by
    have := hfew (by simpa using h)
    omega
  refine oj_run TT rfl ?_
  refine oj_callP rfl rfl rfl rfl rfl Tryd.call19 (by (repeat' (first | exact trivial | exact vCells_lt _ _ _ _ _ _ | constructor))) (Few_c σ0 x _ 300 Y.rep (by omega) (by omega)) fun v ⟨fb2, hv, hfew2⟩ => ⟨.a (.b fb2), trivial, hv.symm, ?_⟩
  refine oj_run TT rfl ?_
  (repeat refine oj_then ?_)
  refine cj_if rfl (fun h => ?_) (fun h => ?_)
  · (repeat (first | refine cj_seq ?_ | (refine cj_region ?_; refine oj_run TT rfl ?_) | refine oj_then ?_ | refine cj_ret ?_ | refine nj_then_ret ?_))
    refine nj_ret TT rfl fun β w' _ _ => ?_
    rfl
  have hwx : x.weight ≤ 300 := by
    have := hfew2 (by simpa using h)
    omega
  (repeat (first | refine cj_seq ?_ | (refine cj_region ?_; refine oj_run TT rfl ?_) | refine cj_skip ?_ | refine nj_then ?_))
  refine oj_callS rfl rfl rfl rfl rfl Tryd.call21 ⟨vCells_lt _ _ _ _ _ _, trivial, trivial⟩ (Shred_s σ0 g _ 1000 V.rep (by omega)) fun v σ1 hle1 ⟨ao, cap, hv, H⟩ => ⟨.tup [.a (.v (.slice ao (shredG g 1000).1.length cap)), .a (.v (.int .i64 (shredG g 1000).2))], (by (repeat' (first | exact trivial | refine SV.lt_tup ?_ | constructor))), hv.symm, ?_⟩
  rw [shredG_k (by omega) (by omega)] at H ⊢
  by_cases hs : sane g ≠ 0
  · rw [if_pos hs] at H ⊢
    dsimp only at H ⊢
    refine oj_run TT rfl ?_
    (repeat (first | refine cj_seq ?_ | (refine cj_region ?_; refine oj_run TT rfl ?_) | refine oj_then ?_))
    refine oj_split 38 rfl (fun h => ?_) (fun h => absurd (by simpa using h) hs)
    refine oj_run TT rfl ?_
    (repeat (first | refine cj_seq ?_ | (refine cj_region ?_; refine oj_run TT rfl ?_) | refine oj_then ?_ | refine cj_if_t rfl ?_ | refine cj_ret ?_ | refine nj_then_ret ?_))
    refine nj_ret TT rfl fun β w' _ _ => ?_
    rfl
  have hs : sane g = 0 := by simpa using hs
  rw [if_neg (by simp [hs])] at H ⊢
  dsimp only at H ⊢
  have V := V.monoC hle1.cle
  have Y := Y.monoC hle1.cle
  generalize hLdef : (shredV 1000 g 0 false emptyS 0).1 = L at *
  obtain ⟨hcnt, hlen1, hpos, hsound, R, hbL⟩ := shred_facts V.rep (by omega) (by omega) (by omega) hs hLdef.symm
  have S := shred_snd V.rep (by omega) (by omega) (by omega) hs hLdef.symm
  refine oj_run TT rfl ?_
  (repeat (first | refine cj_seq ?_ | (refine cj_region ?_; refine oj_run TT rfl ?_) | refine oj_then ?_))
  refine oj_split 38 rfl (fun h => absurd h (by decide)) (fun h => ?_)
  refine oj_run TT rfl ?_
  (repeat refine oj_then ?_)
  refine cj_if rfl (fun h => ?_) (fun h => ?_)
  · have := of_decide_eq_true h
    omega
  (repeat (first | refine cj_seq ?_ | (refine cj_region ?_; refine oj_run TT rfl ?_) | refine cj_skip ?_ | refine nj_then ?_ | (refine oj_band rfl rfl rfl rfl rfl rfl ?_; refine oj_run TT rfl ?_)))
  have hmi := bAnd_le i 65535 (by omega) (by omega)
  generalize bAnd .i64 i 65535 = m1 at hmi ⊢
  refine oj_rem rfl rfl rfl rfl rfl rfl (by omega) ?_
  obtain ⟨a, ha⟩ : ∃ a : Nat, m1.tmod L.length = a := ⟨(m1.tmod L.length).toNat, by
    have := Int.tmod_nonneg (L.length : Int) hmi.1
    omega⟩
  have hal : a < L.length := by
    have := Int.tmod_lt_of_pos m1 (show (0 : Int) < L.length by omega)
    omega
  rw [ha]
  have hkeys := sane_keys g 0 0 hs
  have hkinds := sane_kinds4 g 0 0 hs
  have hwf := V.rep.wf
  obtain ⟨hG, now, hsub, hloc⟩ := shred_loc (gap := 1000) (by omega) (nm := false) (name := emptyS) hwf hkeys (i := a) (by omega)
  rw [hLdef] at hsub hloc
  have hlaw := insert_law hwf hkeys hkinds hs (gap := 1000) (by omega) (by omega) hLdef.symm hsound hal k freshS Y.rep.wf hsub hloc
  have hrw : recsW L ≤ 800 := by
    have := recsW_V 1000 g 0 false emptyS 0
    rw [hLdef] at this
    have e0 : emptyS.size = 0 := rfl
    omega
  have hfs : freshS.size = 5 := rfl
  refine oj_run TT rfl ?_
  (repeat (first | refine cj_seq ?_ | (refine cj_region ?_; refine oj_run TT rfl ?_) | refine oj_then ?_))
  have hcallI := Insert_c σ1 L S ao cap H a k freshS (by decide) x _ Y.rep (by omega)
  generalize insertG L a k freshS x = Res at hcallI hlaw
  obtain ⟨ml, rlaid, rmv, re⟩ := Res
  refine oj_callS rfl rfl rfl rfl rfl Tryd.call62 ⟨trivial, trivial, trivial, trivial, vCells_lt _ _ _ _ _ _, trivial⟩ hcallI fun v σ2 hle2 ⟨bo, bc, hv, HM⟩ => ⟨.tup [.a (.v (.slice bo ml.length bc)), .agg [.v (.int .i64 rlaid), .v (.int .i64 rmv)], .a (.v (.int .i64 re))], (by (repeat' (first | exact trivial | refine AllLt.of ?_ | refine SV.lt_tup ?_ | constructor))), hv.symm, ?_⟩
  have HM : SlAt σ2 bo ml.length bc 11 (recRows ml) := HM
  have H := H.mono hle2
  have V := V.monoC hle2.cle
  have Y := Y.monoC hle2.cle
  refine oj_run TT rfl ?_
  (repeat (first | refine cj_seq ?_ | (refine cj_region ?_; refine oj_run TT rfl ?_) | refine oj_then ?_))
  refine oj_split 60 rfl (fun h => ?_) (fun h => ?_)
  · refine oj_run TT rfl ?_
    (repeat (first | refine cj_seq ?_ | (refine cj_region ?_; refine oj_run TT rfl ?_) | refine oj_then ?_ | refine cj_if_t rfl ?_ | refine cj_ret ?_ | refine nj_then_ret ?_))
    refine nj_ret TT rfl fun β w' _ _ => ?_
    rfl
  have he : re = 0 := by simpa using h
  refine oj_run TT rfl ?_
  (repeat refine oj_then ?_)
  refine cj_if rfl (fun h => ?_) (fun h => ?_)
  · (repeat (first | refine cj_seq ?_ | (refine cj_region ?_; refine oj_run TT rfl ?_) | refine oj_then ?_ | refine cj_ret ?_ | refine nj_then_ret ?_))
    refine nj_ret TT rfl fun β w' _ _ => ?_
    rfl
  have hmv := of_decide_eq_false h
  obtain ⟨g', kk, O⟩ := hlaw.2 he
  have hres := O.res
  dsimp only at hres
  obtain ⟨-, hc2, -⟩ | ⟨hroom, hmv0, hlayR, at_, M, hat1, hat2, hMl, hRl, hlastR⟩ := hres
  · omega
  have hO1 := O.swap.weight
  have hO2 := insIt_weight hG x kk freshS
  have hg'c := (sane_iff.1 O.sane).2
  have hRlen := hlayR.len O.wf
  have hwV := wVg hwf 1000
  have SR := lay_snd hlayR (by omega) O.wf (by omega) (by omega) (by omega)
  have hsR := lay_sound hlayR (by omega) O.wf O.sane (by omega) (by omega)
  have hcx := cntV_pos x
  have htl : (L.take at_).length = at_ := List.length_take_of_le hat2
  have hRll : ml.length = L.length + cntV x := by
    rw [hRl, List.length_append, List.length_append, htl, hMl, List.length_drop]
    omega
  have hsrt := hlayR.sorted
  have hlow : ∀ q, q < at_ → ml[q]? = L[q]? := fun q hq => by
    rw [hRl, List.getElem?_append_left (by omega), List.getElem?_take, if_pos hq]
  have hne : ∀ r s, ml[at_]? = some r → L[at_]? = some s → r ≠ s := fun r s h1 h2 e => by
    have h3 : ml[at_ + cntV x]? = some s := by
      rw [hRl, List.getElem?_append_right (by omega), htl, List.getElem?_append_right (by omega), hMl, List.getElem?_drop, show at_ + (at_ + cntV x - at_ - cntV x) = at_ by omega, h2]
    have hl1 := (List.getElem?_eq_some_iff.1 h1).1
    have hl3 := (List.getElem?_eq_some_iff.1 h3).1
    have := List.pairwise_iff_getElem.1 hsrt at_ (at_ + cntV x) hl1 hl3 (by omega)
    rw [(List.getElem?_eq_some_iff.1 h1).2, (List.getElem?_eq_some_iff.1 h3).2, e] at this
    omega
  have hdel : deleteG ml at_ = (L, 0) := by
    unfold deleteG
    rw [if_neg (by rw [sound_place hsR (by omega)]; decide), if_neg (by omega), Int.toNat_natCast, hlastR, show ((at_ : Int) + cntV x - 1 + 1).toNat = at_ + cntV x by omega]
    congr 1
    rw [hRl, List.take_left' htl, ← List.drop_drop, List.drop_left' htl, List.drop_left' hMl, List.take_append_drop]
  have hlaidx := O.laid
  dsimp only at hlaidx
  clear hlaw O hRl hlastR hlayR
  (repeat (first | refine cj_seq ?_ | (refine cj_region ?_; refine oj_run TT rfl ?_) | refine oj_then ?_ | refine cj_skip ?_ | refine cj_block ?_ | refine nj_then ?_ | (refine oj_add rfl rfl rfl rfl rfl rfl (by omega) ?_; refine oj_run TT rfl ?_)))
  refine cj_cutB (α := Unit) (fun _ => σ2) (fun _ => [(2, .a (.v (.int .i64 k))), (7, .a (.p 1 0)), (9, .a .tt), (10, .a (.v (.slice ao L.length cap))), (12, .a (.v (.int .i64 a))), (13, .a (.v (.slice bo ml.length bc))), (14, .a (.p 2 0)), (16, .a (.v (.int .i64 (at_ : Nat))))])
    (fun _ => [(1, .loc 27, vCells x yla ylc yma ymc), (2, .loc 98, [.v (.int .i64 rlaid), .v (.int .i64 rmv)])]) (fun _ => []) 3 (fun _ => True) ?_ (fun _ _ => ?_)
  · refine cj_loop (fun (_ : Nat) => σ2) (fun n => [(2, .a (.v (.int .i64 k))), (7, .a (.p 1 0)), (9, .a .tt), (10, .a (.v (.slice ao L.length cap))), (12, .a (.v (.int .i64 a))), (13, .a (.v (.slice bo ml.length bc))), (14, .a (.p 2 0)), (16, .a (.v (.int .i64 ((a + 1 + n : Nat) : Int)))), (17, .a (.v (.int .i64 (n : Nat))))])
      (fun _ => [(1, .loc 27, vCells x yla ylc yma ymc), (2, .loc 98, [.v (.int .i64 rlaid), .v (.int .i64 rmv)])]) (fun _ => []) 3 (fun n => a + 1 + n ≤ at_) (fun n => at_ - (a + 1 + n)) 0 hat1 rfl (by (repeat (first | exact trivial | refine And.intro rfl ?_))) (by (repeat (first | exact trivial | refine And.intro rfl ?_))) rfl (by (repeat' (first | exact trivial | exact Nat.le_of_ble_eq_true rfl | constructor))) (by (repeat' (first | exact trivial | exact Nat.le_of_ble_eq_true rfl | exact vCells_lt _ _ _ _ _ _ | refine AllLt.of ?_ | constructor))) fun n hn => ?_
    (repeat refine cj_seq ?_)
    refine cj_draw [(0,.pure),(1,.pure),(2,.pure),(3,.pure),(4,.pure),(5,.pure),(6,.pure),(7,.pure),(8,.pure),(9,.pure),(10,.pure),(11,.pure),(12,.pure),(13,.pure),(14,.pure),(15,.pure),(16,.pure),(17,.pure),(18,.pure),(19,.pure),(20,.quiet),(21,.pure),(22,.pure),(23,.pure),(24,.quiet),(25,.pure),(26,.pure)] mixed (by kernel_rfl) (oj_run TT rfl ?_)
    refine oj_split 72 rfl (fun _ => ?_) (fun h => absurd (of_decide_eq_false (show decide ((n : Int) < L.length) = false from h)) (by omega))
    refine oj_run TT rfl ?_
    refine oj_split 78 rfl (fun _ => ?_) (fun h => absurd (of_decide_eq_false (show decide (((a + 1 + n : Nat) : Int) < ml.length) = false from h)) (by omega))
    refine oj_run TT rfl ?_
    refine oj_split 84 rfl (fun h => ?_) (fun h => ?_)
    rotate_left
    · have h := of_decide_eq_false (show decide (((a + 1 + n : Nat) : Int) < L.length) = false from h)
      have hna : a + 1 + n = at_ := by omega
      rw [hna]
      refine oj_run TT rfl ?_
      (repeat (first | refine oj_then ?_ | refine cj_if_f rfl ?_ | refine cj_exit ?_ | refine nj_then_exit ?_ | refine nj_block_out ?_))
      refine nj_again () trivial Nat.zero_lt_one rfl (by (repeat (first | exact trivial | refine And.intro rfl ?_))) (by (repeat (first | exact trivial | refine And.intro rfl ?_))) rfl (by (repeat' (first | exact trivial | exact Nat.le_of_ble_eq_true rfl | constructor))) (by (repeat' (first | exact trivial | exact Nat.le_of_ble_eq_true rfl | exact vCells_lt _ _ _ _ _ _ | refine AllLt.of ?_ | constructor)))
    have h := of_decide_eq_true (show decide (((a + 1 + n : Nat) : Int) < L.length) = true from h)
    have hqL : a + 1 + n < L.length := by omega
    have hqm : a + 1 + n < ml.length := by omega
    have hLq : L[a + 1 + n]? = some L[a + 1 + n] := List.getElem?_eq_getElem hqL
    have hmq : ml[a + 1 + n]? = some ml[a + 1 + n] := List.getElem?_eq_getElem hqm
    have hrL := recRows_get hLq
    have hrm := recRows_get hmq
    have heq : a + 1 + n < at_ → ml[a + 1 + n] = L[a + 1 + n] := fun hq => by
      have := hlow _ hq
      rw [hLq, hmq] at this
      exact Option.some.inj this
    have hnq : a + 1 + n = at_ → ml[a + 1 + n] ≠ L[a + 1 + n] := fun hq => hne _ _ (by rw [← hq]; exact hmq) (by rw [← hq]; exact hLq)
    generalize L[a + 1 + n] = rL at *
    generalize ml[a + 1 + n] = rm at *
    refine oj_run TT rfl ?_
    refine oj_idx TT rfl rfl rfl rfl rfl rfl rfl rfl rfl HM (by omega) hrm (oj_run TT rfl ?_)
    refine oj_idx TT rfl rfl rfl rfl rfl rfl rfl rfl rfl H (by omega) hrL (oj_run TT rfl ?_)
    refine oj_eqRec rm rL rfl rfl rfl rfl rfl rfl rfl (oj_run TT rfl ?_)
    (repeat refine oj_then ?_)
    refine cj_if rfl (fun h => ?_) (fun h => ?_)
    · have h : rm = rL := of_decide_eq_true h
      have hnl : a + 1 + n < at_ := by
        rcases Nat.lt_or_ge (a + 1 + n) at_ with h1 | h1
        · exact h1
        · exact absurd h (hnq (by omega))
      (repeat (first | refine cj_seq ?_ | (refine cj_region ?_; refine oj_run TT rfl ?_) | refine oj_nil ?_ | refine cj_skip ?_ | refine cj_block ?_ | refine nj_then ?_ | refine nj_block ?_ | (refine oj_add rfl rfl rfl rfl rfl rfl (by omega) ?_; refine oj_run TT rfl ?_)))
      refine nj_again (n + 1) (show a + 1 + (n + 1) ≤ at_ by omega) (by omega) rfl (by (repeat (first | exact trivial | refine And.intro rfl ?_))) (by (repeat (first | exact trivial | refine And.intro rfl ?_))) rfl (by (repeat' (first | exact trivial | exact Nat.le_of_ble_eq_true rfl | constructor))) (by (repeat' (first | exact trivial | exact Nat.le_of_ble_eq_true rfl | exact vCells_lt _ _ _ _ _ _ | refine AllLt.of ?_ | constructor)))
    · have h : rm ≠ rL := of_decide_eq_false h
      have hna : a + 1 + n = at_ := by
        rcases Nat.lt_or_ge (a + 1 + n) at_ with h1 | h1
        · exact absurd (heq h1) h
        · omega
      rw [hna]
      (repeat (first | refine cj_exit ?_ | refine nj_then_exit ?_ | refine nj_block_out ?_))
      refine nj_again () trivial Nat.zero_lt_one rfl (by (repeat (first | exact trivial | refine And.intro rfl ?_))) (by (repeat (first | exact trivial | refine And.intro rfl ?_))) rfl (by (repeat' (first | exact trivial | exact Nat.le_of_ble_eq_true rfl | constructor))) (by (repeat' (first | exact trivial | exact Nat.le_of_ble_eq_true rfl | exact vCells_lt _ _ _ _ _ _ | refine AllLt.of ?_ | constructor)))
  have hcd := Delete12_c σ2 ml SR bo bc HM at_
  rw [hdel] at hcd
  dsimp only at hcd
  (repeat (first | refine cj_seq ?_ | (refine cj_region ?_; refine oj_run TT rfl ?_)))
  refine oj_callS rfl rfl rfl rfl rfl Tryd.call64 (by (repeat' (first | exact trivial | constructor))) hcd fun v σ3 hle3 ⟨no, nc, hv, HN⟩ => ⟨.tup [.a (.v (.slice no L.length nc)), .a (.v (.int .i64 0))], (by (repeat' (first | exact trivial | refine SV.lt_tup ?_ | constructor))), hv.symm, ?_⟩
  have H := H.mono hle3
  have Y := Y.monoC hle3.cle
  refine oj_run TT rfl ?_
  (repeat (first | refine cj_seq ?_ | refine oj_then ?_))
  refine cj_draw [(0,.pure),(1,.pure),(2,.pure),(3,.pure),(4,.pure),(5,.pure),(6,.pure),(7,.pure),(8,.pure),(9,.pure),(10,.pure),(11,.quiet),(12,.quiet),(13,.keep),(14,.pure),(15,.pure)] mixed (by kernel_rfl) (oj_run TT rfl ?_)
  refine oj_split 107 rfl (fun h => absurd h (by decide)) (fun _ => ?_)
  refine oj_run TT rfl ?_
  refine oj_split 114 rfl (fun h => absurd (show (!decide ((L.length : Int) = L.length)) = true from h) (by simp)) (fun _ => ?_)
  refine oj_run TT rfl ?_
  refine oj_callP rfl rfl rfl rfl rfl Tryd.call25 (by (repeat' (first | exact trivial | exact vCells_lt _ _ _ _ _ _ | constructor))) (Count_c x σ3 _ Y.rep (by omega)) fun v hv => ⟨.a (.v (.int .i64 (cntV x))), trivial, hv.symm, ?_⟩
  refine oj_run TT rfl ?_
  (repeat refine oj_then ?_)
  refine cj_if rfl (fun h => absurd (show (!decide (rlaid = (cntV x : Int))) = true from h) (by rw [hlaidx]; simp)) (fun _ => ?_)
  (repeat (first | refine cj_seq ?_ | (refine cj_region ?_; refine oj_run TT rfl ?_) | refine oj_then ?_ | refine cj_skip ?_ | refine cj_block ?_ | refine nj_then ?_))
  refine cj_cutB (α := Unit) (fun _ => σ3) (fun _ => [(2, .a (.v (.int .i64 k))), (9, .a .tt), (10, .a (.v (.slice ao L.length cap))), (12, .a (.v (.int .i64 a))), (18, .a (.v (.slice no L.length nc)))]) (fun _ => []) (fun _ => []) 0 (fun _ => True) ?_ (fun _ _ => ?_)
  · refine cj_loop (fun (_ : Nat) => σ3) (fun j => [(2, .a (.v (.int .i64 k))), (9, .a .tt), (10, .a (.v (.slice ao L.length cap))), (12, .a (.v (.int .i64 a))), (18, .a (.v (.slice no L.length nc))), (20, .a (.v (.int .i64 (j : Nat))))]) (fun _ => []) (fun _ => []) 0 (fun j => j ≤ L.length) (fun j => L.length - j) 0 (Nat.zero_le _) rfl (by (repeat (first | exact trivial | refine And.intro rfl ?_))) (by (repeat (first | exact trivial | refine And.intro rfl ?_))) rfl (by (repeat' (first | exact trivial | constructor))) (by (repeat' exact trivial)) fun j hj => ?_
    (repeat (first | refine cj_seq ?_ | (refine cj_region ?_; refine oj_run TT rfl ?_) | refine oj_then ?_))
    refine cj_if rfl (fun h => ?_) (fun h => ?_)
    rotate_left
    · (repeat (first | refine cj_exit ?_ | refine nj_then_exit ?_ | refine nj_block_out ?_))
      refine nj_again () trivial Nat.zero_lt_one rfl (by (repeat (first | exact trivial | refine And.intro rfl ?_))) (by (repeat (first | exact trivial | refine And.intro rfl ?_))) rfl (by (repeat' (first | exact trivial | constructor))) (by (repeat' exact trivial))
    have hjl : j < L.length := by have := of_decide_eq_true h; omega
    have hrow := recRows_get (List.getElem?_eq_getElem hjl)
    generalize L[j] = rj at *
    (repeat (first | refine cj_seq ?_ | refine cj_skip ?_ | refine cj_block ?_ | refine nj_then ?_))
    refine cj_draw [(0,.pure),(1,.pure),(2,.pure),(3,.quiet),(4,.pure),(5,.pure),(6,.pure),(7,.quiet),(8,.pure)] mixed (by kernel_rfl) (oj_run TT rfl ?_)
    refine oj_idx TT rfl rfl rfl rfl rfl rfl rfl rfl rfl HN (by omega) hrow (oj_run TT rfl ?_)
    refine oj_idx TT rfl rfl rfl rfl rfl rfl rfl rfl rfl H (by omega) hrow (oj_run TT rfl ?_)
    refine oj_neRec rj rj rfl rfl rfl rfl rfl rfl rfl (oj_run TT rfl ?_)
    (repeat refine oj_then ?_)
    refine cj_if rfl (fun h => absurd (show (!decide (rj = rj)) = true from h) (by simp)) (fun _ => ?_)
    (repeat (first | (refine cj_region ?_; refine oj_run TT rfl ?_) | refine oj_nil ?_ | refine cj_skip ?_ | refine nj_then ?_ | refine nj_block ?_ | (refine oj_add rfl rfl rfl rfl rfl rfl (by omega) ?_; refine oj_run TT rfl ?_)))
    refine nj_again (j + 1) hjl (by omega) rfl (by (repeat (first | exact trivial | refine And.intro rfl ?_))) (by (repeat (first | exact trivial | refine And.intro rfl ?_))) rfl (by (repeat' (first | exact trivial | constructor))) (by (repeat' exact trivial))
  (repeat (first | refine cj_seq ?_ | (refine cj_region ?_; refine oj_run TT rfl ?_)))
  refine oj_callS rfl rfl rfl rfl rfl Tryd.call61 (by (repeat' (first | exact trivial | constructor))) (Room_c σ3 L S no nc HN a k) fun v σ4 hle4 hv => ⟨.a (.v (.int .i64 (roomG L a k))), trivial, hv.symm, ?_⟩
  have H := H.mono hle4
  refine oj_run TT rfl ?_
  refine oj_callS rfl rfl rfl rfl rfl Tryd.call61 (by (repeat' (first | exact trivial | constructor))) (Room_c σ4 L S ao cap H a k) fun v σ5 hle5 hv => ⟨.a (.v (.int .i64 (roomG L a k))), trivial, hv.symm, ?_⟩
  refine oj_run TT rfl ?_
  (repeat (first | refine oj_then ?_ | refine cj_ret ?_))
  refine nj_ret TT rfl fun β w' _ _ => ?_
  show Value.bool (decide (roomG L a k = roomG L a k)) = _
  rw [decide_eq_true rfl]
end Go.Sy
namespace Go.Sy
open Go.Proofs

/-! ### EditsDrop -/

set_option maxRecDepth 100000 in
set_option maxHeartbeats 1000000 in
theorem EditsDrop_c (σ : Snap) (g : GVal) (r : List AT) (i gp : Int) (hr : RepV σ g r) :
    PlainS Tryd.prog 16 [.agg r, .a (.v (.int .i64 i)), .a (.v (.int .i64 gp))] σ (fun v => v = .bool true) := by
  obtain ⟨la, lc, lrows, ma, mc, vrows, rfl, V⟩ := hr.open
  refine enter_p Tryd.func16 rfl rfl (by (repeat' (first | exact trivial | exact vCells_lt _ _ _ _ _ _ | constructor))) fun w => ?_
  (repeat (first | refine cj_seq ?_ | (refine cj_region ?_; refine oj_run TT rfl ?_) | refine oj_then ?_))
  refine oj_callS rfl rfl rfl rfl rfl Tryd.call60 (by (repeat' exact trivial)) (awake12_c σ) fun v σ0 hle0 hv => ⟨.a .tt, trivial, hv.symm, ?_⟩
  have V := V.monoC hle0.cle
  refine oj_run TT rfl ?_
  (repeat (first | refine cj_seq ?_ | (refine cj_region ?_; refine oj_run TT rfl ?_) | refine oj_then ?_))
  refine oj_callP rfl rfl rfl rfl rfl Tryd.call19 (by (repeat' (first | exact trivial | exact vCells_lt _ _ _ _ _ _ | constructor))) (Few_c σ0 g _ 1000 V.rep (by omega) (by omega)) fun v ⟨fb, hv, hfew⟩ => ⟨.a (.b fb), trivial, hv.symm, ?_⟩
  refine oj_run TT rfl ?_
  (repeat refine oj_then ?_)
  refine cj_if rfl (fun h => ?_) (fun h => ?_)
  · (repeat (first | refine cj_seq ?_ | (refine cj_region ?_; refine oj_run TT rfl ?_) | refine oj_then ?_ | refine cj_ret ?_ | refine nj_then_ret ?_))
    refine nj_ret TT rfl fun β w' _ _ => ?_
    rfl
  have hw : g.weight ≤ 1000 := by
    have := hfew (by simpa using h)
    omega
  have hgb := bAnd_le gp 15 (by omega) (by omega)
  (repeat (first | refine cj_seq ?_ | (refine cj_region ?_; refine oj_run TT rfl ?_) | refine cj_skip ?_ | refine nj_then ?_ | (refine oj_band rfl rfl rfl rfl rfl rfl ?_; refine oj_run TT rfl ?_) | (refine oj_add rfl rfl rfl rfl rfl rfl (by omega) ?_; refine oj_run TT rfl ?_)))
  generalize bAnd .i64 gp 15 = gb at hgb ⊢
  skip
  refine oj_callS rfl rfl rfl rfl rfl Tryd.call21 ⟨vCells_lt _ _ _ _ _ _, trivial, trivial⟩ (Shred_s σ0 g _ (1 + gb) V.rep (by omega)) fun v σ1 hle1 ⟨ao, cap, hv, H⟩ => ⟨.tup [.a (.v (.slice ao (shredG g (1 + gb)).1.length cap)), .a (.v (.int .i64 (shredG g (1 + gb)).2))], (by (repeat' (first | exact trivial | refine SV.lt_tup ?_ | constructor))), hv.symm, ?_⟩
  rw [shredG_k (by omega) (by omega)] at H ⊢
  by_cases hs : sane g ≠ 0
  · rw [if_pos hs] at H ⊢
    dsimp only at H ⊢
    refine oj_run TT rfl ?_
    (repeat (first | refine cj_seq ?_ | (refine cj_region ?_; refine oj_run TT rfl ?_) | refine oj_then ?_))
    refine oj_split 36 rfl (fun h => ?_) (fun h => absurd (by simpa using h) hs)
    refine oj_run TT rfl ?_
    (repeat (first | refine cj_seq ?_ | (refine cj_region ?_; refine oj_run TT rfl ?_) | refine oj_then ?_ | refine cj_if_t rfl ?_ | refine cj_ret ?_ | refine nj_then_ret ?_))
    refine nj_ret TT rfl fun β w' _ _ => ?_
    rfl
  have hs : sane g = 0 := by simpa using hs
  rw [if_neg (by simp [hs])] at H ⊢
  dsimp only at H ⊢
  have V := V.monoC hle1.cle
  generalize hLdef : (shredV (1 + gb) g 0 false emptyS 0).1 = L at *
  obtain ⟨hcnt, hlen1, hpos, hsound, R, hbL⟩ := shred_facts V.rep (by omega) (by omega) (by omega) hs hLdef.symm
  have S := shred_snd V.rep (by omega) (by omega) (by omega) hs hLdef.symm
  refine oj_run TT rfl ?_
  (repeat (first | refine cj_seq ?_ | (refine cj_region ?_; refine oj_run TT rfl ?_) | refine oj_then ?_))
  refine oj_split 36 rfl (fun h => absurd h (by decide)) (fun h => ?_)
  refine oj_run TT rfl ?_
  (repeat refine oj_then ?_)
  refine cj_if rfl (fun h => ?_) (fun h => ?_)
  · have := of_decide_eq_true h
    omega
  (repeat (first | refine cj_seq ?_ | (refine cj_region ?_; refine oj_run TT rfl ?_) | refine cj_skip ?_ | refine nj_then ?_ | (refine oj_band rfl rfl rfl rfl rfl rfl ?_; refine oj_run TT rfl ?_)))
  have hmi := bAnd_le i 65535 (by omega) (by omega)
  generalize bAnd .i64 i 65535 = m1 at hmi ⊢
  refine oj_rem rfl rfl rfl rfl rfl rfl (by omega) ?_
  obtain ⟨a, ha⟩ : ∃ a : Nat, m1.tmod L.length = a := ⟨(m1.tmod L.length).toNat, by
    have := Int.tmod_nonneg (L.length : Int) hmi.1
    omega⟩
  have hal : a < L.length := by
    have := Int.tmod_lt_of_pos m1 (show (0 : Int) < L.length by omega)
    omega
  rw [ha]
  have hkeys := sane_keys g 0 0 hs
  have hkinds := sane_kinds4 g 0 0 hs
  have hwf := V.rep.wf
  refine oj_run TT rfl ?_
  (repeat (first | refine cj_seq ?_ | (refine cj_region ?_; refine oj_run TT rfl ?_) | refine oj_then ?_))
  have hpl0 := sound_place hsound hal
  refine oj_callS rfl rfl rfl rfl rfl Tryd.call64 (by (repeat' (first | exact trivial | constructor))) (Delete12_c σ1 L S ao cap H a) fun v σ2 hle2 ⟨no, nc, hv, HN⟩ => ⟨.tup [.a (.v (.slice no (deleteG L a).1.length nc)), .a (.v (.int .i64 (deleteG L a).2))], (by (repeat' (first | exact trivial | refine SV.lt_tup ?_ | constructor))), hv.symm, ?_⟩
  have V := V.monoC hle2.cle
  have H := H.mono hle2
  refine oj_run TT rfl ?_
  (repeat (first | refine cj_seq ?_ | (refine cj_region ?_; refine oj_run TT rfl ?_) | refine oj_then ?_))
  refine cj_if rfl (fun h => ?_) (fun h => ?_)
  · have h := of_decide_eq_true (show decide ((a : Int) = 0) = true from h)
    have hd0 : (deleteG L a).2 = 6 := by
      unfold deleteG
      rw [if_neg (by rw [hpl0]; decide), if_pos h]
    (repeat (first | refine cj_seq ?_ | (refine cj_region ?_; refine oj_run TT rfl ?_) | refine oj_then ?_ | refine cj_ret ?_ | refine nj_then_ret ?_))
    refine nj_ret TT rfl fun β w' _ _ => ?_
    show Value.bool (decide ((deleteG L a).2 = 6)) = _
    rw [hd0]
    rfl
  have h := of_decide_eq_false (show decide ((a : Int) = 0) = false from h)
  obtain ⟨hG, now, hsub, hloc⟩ := shred_loc (gap := 1 + gb) (by omega) (nm := false) (name := emptyS) hwf hkeys (i := a) (by omega)
  rw [hLdef] at hsub hloc
  obtain ⟨P', hp, m, x, g', D⟩ := delete_law hwf hkeys hkinds hs (gap := 1 + gb) (by omega) hLdef.symm (by omega) hsub hloc
  have hlast := D.last
  have hle := D.le
  have hcG := cntV_pos hG
  have hdel : deleteG L a = (L.take a ++ L.drop (a + cntV hG), 0) := by
    unfold deleteG
    rw [if_neg (by rw [hpl0]; decide), if_neg h, Int.toNat_natCast, hlast, show ((a : Int) + cntV hG - 1 + 1).toNat = a + cntV hG by omega]
  rw [hdel] at HN ⊢
  dsimp only at HN ⊢
  have hmll : (L.take a ++ L.drop (a + cntV hG)).length = L.length - cntV hG := by
    rw [List.length_append, List.length_take, List.length_drop]
    omega
  have hg'c := (sane_iff.1 D.sane).2
  have hwV := wVg hwf (1 + gb)
  have hww : D.swap.weight = D.swap.weight := rfl
  have hsw := D.swap.weight
  have hdw : (delIt hp m).weight ≤ hp.weight := by
    have e0 := GVal.weight_eq hp
    have hes : ∀ (l : List GVal) (q : Nat), GVal.weights (l.eraseIdx q) ≤ GVal.weights l := by
      intro l
      induction l with
      | nil => intro q; simp
      | cons z l ih =>
        intro q
        cases q with
        | zero => simp only [List.eraseIdx_cons_zero, GVal.weights]; omega
        | succ q => have := ih q; simp only [List.eraseIdx_cons_succ, GVal.weights]; omega
    have hez : ∀ (l : List ByteArray) (q : Nat), sizes (l.eraseIdx q) ≤ sizes l := by
      intro l
      induction l with
      | nil => intro q; simp
      | cons z l ih =>
        intro q
        cases q with
        | zero => simp only [List.eraseIdx_cons_zero, sizes]; omega
        | succ q => have := ih q; simp only [List.eraseIdx_cons_succ, sizes]; omega
    unfold delIt
    split
    · have e1 := GVal.weight_eq (.mk hp.kind hp.b hp.n hp.s (hp.l.eraseIdx m) hp.ks hp.vs)
      have := hes hp.l m
      simp only [GVal.s, GVal.n, GVal.l, GVal.ks, GVal.vs] at e0 e1 this ⊢
      omega
    · have e1 := GVal.weight_eq (.mk hp.kind hp.b hp.n hp.s hp.l (hp.ks.eraseIdx (m - hp.l.length)) (hp.vs.eraseIdx (m - hp.l.length)))
      have h1 := hes hp.vs (m - hp.l.length)
      have h2 := hez hp.ks (m - hp.l.length)
      simp only [GVal.s, GVal.n, GVal.l, GVal.ks, GVal.vs] at e0 e1 h1 h2 ⊢
      omega
  have hgap : (1 + gb) * (cntV g : Int) ≤ 16 * 1000 := Int.mul_le_mul (by omega) (by omega) (by omega) (by omega)
  have hwV2 : wV (1 + gb) g ≤ 1099511627776 := by rw [hwV, Int.mul_assoc]; omega
  have SN := lay_snd D.res (by omega) D.wf (by omega) hwV2 (by omega)
  have hbN := D.res.buildR (by omega) D.wf D.sane (by omega) hwV2
  have hPa := D.eP
  have hpf := Loc.place hloc
  have hPl : (placeG L a).length ≤ 1000000 := by
    have := upF_len L (a + 1) a
    unfold placeG
    rw [List.length_reverse]
    omega
  have hlk : ∀ j r, (L.take a ++ L.drop (a + cntV hG))[j]? = some r → L[if a ≤ j then j + cntV hG else j]? = some r := fun j r hj => by
    by_cases hja : a ≤ j
    · rw [List.getElem?_append_right (by rw [List.length_take]; omega), List.length_take, Nat.min_eq_left (by omega), List.getElem?_drop] at hj
      rw [if_pos hja, ← hj]
      congr 1
      omega
    · rw [List.getElem?_append_left (by rw [List.length_take]; omega), List.getElem?_take, if_pos (by omega)] at hj
      rw [if_neg hja]
      exact hj
  (repeat (first | refine cj_seq ?_ | (refine cj_region ?_; refine oj_run TT rfl ?_) | refine cj_skip ?_ | refine nj_then ?_))
  refine oj_callS rfl rfl rfl rfl rfl Tryd.call27 (by (repeat' (first | exact trivial | constructor))) (Place_c σ2 L R ao cap H a hal hsound (by omega)) fun v σ3 hle3 ⟨oo, oc, hv, HP⟩ => ⟨.a (.v (.slice oo (placeG L a).length oc)), trivial, hv.symm, ?_⟩
  have V := V.monoC hle3.cle
  have H := H.mono hle3
  have HN := HN.mono hle3
  refine oj_run TT rfl ?_
  (repeat (first | refine cj_seq ?_ | (refine cj_region ?_; refine oj_run TT rfl ?_) | refine oj_then ?_))
  refine oj_callS rfl rfl rfl rfl rfl Tryd.call67 ⟨vCells_lt _ _ _ _ _ _, trivial, trivial⟩ (Drop_c σ3 g la lc lrows ma mc vrows V (by omega) hkeys hkinds hPa D.ex D.swap hPl oo oc HP) fun v σ4 hle4 ⟨rw_, hv, hrepW⟩ => ⟨.tup [.agg rw_, .a (.v (.int .i64 0))], SV.lt_tup ⟨hrepW.clo, trivial, trivial⟩, hv.symm, ?_⟩
  obtain ⟨xla, xlc, xlrows, xma, xmc, xvrows, rfl, XV⟩ := hrepW.open
  have H := H.mono hle4
  have HN := HN.mono hle4
  refine oj_run TT rfl ?_
  (repeat (first | refine cj_seq ?_ | (refine cj_region ?_; refine oj_run TT rfl ?_) | refine oj_then ?_))
  refine oj_callS rfl rfl rfl rfl rfl Tryd.call22 ⟨trivial, trivial⟩ (Build_c σ4 _ SN.ok.len SN.ok.fit SN.ok.bw no nc HN) fun v σ5 hle5 ⟨rb_, hv, hrepB⟩ => ⟨.tup [.agg rb_, .a (.v (.int .i64 (buildR (L.take a ++ L.drop (a + cntV hG))).2))], SV.lt_tup ⟨hrepB.clo, trivial, trivial⟩, hv.symm, ?_⟩
  rw [hbN] at hrepB ⊢
  dsimp only at hrepB ⊢
  obtain ⟨bla, blc, blrows, bma, bmc, bvrows, rfl, BV⟩ := hrepB.open
  have XV := XV.monoC hle5.cle
  have H := H.mono hle5
  have HN := HN.mono hle5
  refine oj_run TT rfl ?_
  (repeat (first | refine cj_seq ?_ | (refine cj_region ?_; refine oj_run TT rfl ?_) | refine oj_then ?_))
  refine oj_callP rfl rfl rfl rfl rfl Tryd.call40 (by (repeat' (first | exact trivial | constructor))) (Last_c σ5 L R ao cap H a hal hsound) fun v hv => ⟨.a (.v (.int .i64 (lastG L a))), trivial, hv.symm, ?_⟩
  refine oj_run TT rfl ?_
  rw [hlast]
  refine oj_minus rfl rfl rfl rfl rfl rfl (by omega) (oj_run TT rfl ?_)
  rw [show (a : Int) + cntV hG - 1 - a = (cntV hG : Int) - 1 by omega]
  refine oj_run TT rfl ?_
  refine oj_add rfl rfl rfl rfl rfl rfl (by omega) (oj_run TT rfl ?_)
  rw [show (cntV hG : Int) - 1 + 1 = (cntV hG : Int) by omega]
  refine oj_run TT rfl ?_
  (repeat (first | refine cj_seq ?_ | (refine cj_region ?_; refine oj_run TT rfl ?_) | refine oj_then ?_))
  refine oj_split 82 rfl (fun h => absurd h (by decide)) (fun _ => ?_)
  refine oj_run TT rfl ?_
  refine oj_split 86 rfl (fun h => absurd h (by decide)) (fun _ => ?_)
  refine oj_run TT rfl ?_
  refine oj_split 90 rfl (fun h => absurd h (by decide)) (fun _ => ?_)
  refine oj_run TT rfl ?_
  refine oj_callP rfl rfl rfl rfl rfl Tryd.call23 (by (repeat' (first | exact trivial | exact vCells_lt _ _ _ _ _ _ | constructor))) (Exact_c g' σ5 g' _ _ BV.rep XV.rep) fun v hv => ⟨.a .tt, trivial, (by rw [hv, exactG_self g' D.wf]; rfl), ?_⟩
  refine oj_run TT rfl ?_
  refine oj_minus rfl rfl rfl rfl rfl rfl (by omega) (oj_run TT rfl ?_)
  refine oj_run TT rfl ?_
  (repeat refine oj_then ?_)
  generalize hml : L.take a ++ L.drop (a + cntV hG) = ml at *
  refine cj_if rfl (fun h => absurd (show (!decide ((ml.length : Int) = (L.length : Int) - (cntV hG : Int))) = true from h) (by rw [hmll]; simp; omega)) (fun _ => ?_)
  (repeat (first | refine cj_seq ?_ | (refine cj_region ?_; refine oj_run TT rfl ?_) | refine oj_then ?_ | refine cj_skip ?_ | refine cj_block ?_ | refine nj_then ?_))
  refine cj_cutB (α := Unit) (fun _ => σ5) (fun _ => [(7, .a .tt)]) (fun _ => []) (fun _ => []) 0 (fun _ => True) ?_ (fun _ _ => ?_)
  · refine cj_loop (fun (_ : Nat) => σ5) (fun j => [(7, .a .tt), (8, .a (.v (.slice ao L.length cap))), (10, .a (.v (.int .i64 a))), (11, .a (.v (.slice no ml.length nc))), (18, .a (.v (.int .i64 (cntV hG)))), (19, .a (.v (.int .i64 (j : Nat))))]) (fun _ => []) (fun _ => []) 0 (fun j => j ≤ ml.length) (fun j => ml.length - j) 0 (Nat.zero_le _) rfl (by (repeat (first | exact trivial | refine And.intro rfl ?_))) (by (repeat (first | exact trivial | refine And.intro rfl ?_))) rfl (by (repeat' (first | exact trivial | constructor))) (by (repeat' exact trivial)) fun j hj => ?_
    (repeat (first | refine cj_seq ?_ | (refine cj_region ?_; refine oj_run TT rfl ?_) | refine oj_then ?_))
    refine cj_if rfl (fun h => ?_) (fun h => ?_)
    rotate_left
    · (repeat (first | refine cj_exit ?_ | refine nj_then_exit ?_ | refine nj_block_out ?_))
      refine nj_again () trivial Nat.zero_lt_one rfl (by (repeat (first | exact trivial | refine And.intro rfl ?_))) (by (repeat (first | exact trivial | refine And.intro rfl ?_))) rfl (by (repeat' (first | exact trivial | constructor))) (by (repeat' exact trivial))
    have hjl : j < ml.length := by have := of_decide_eq_true h; omega
    have hmj : ml[j]? = some ml[j] := List.getElem?_eq_getElem hjl
    have hLk := hlk j _ hmj
    have hrow := recRows_get hmj
    have hrowL := recRows_get hLk
    generalize ml[j] = rj at *
    (repeat (first | refine cj_seq ?_ | (refine cj_region ?_; refine oj_run TT rfl ?_) | refine oj_then ?_ | refine cj_skip ?_ | refine cj_block ?_ | refine nj_then ?_))
    refine cj_cutN (fun (_ : Unit) => σ5) (fun _ => [(7, .a .tt), (8, .a (.v (.slice ao L.length cap))), (10, .a (.v (.int .i64 a))), (11, .a (.v (.slice no ml.length nc))), (18, .a (.v (.int .i64 (cntV hG)))), (19, .a (.v (.int .i64 (j : Nat)))), (20, .a (.v (.int .i64 ((if a ≤ j then j + cntV hG else j : Nat) : Int))))]) (fun _ => []) (fun _ => []) 0 (fun _ => True) ?_ (fun _ _ => ?_)
    · refine cj_if rfl (fun h => ?_) (fun h => ?_)
      · have h := of_decide_eq_true (show decide ((j : Int) ≥ a) = true from h)
        rw [if_pos (show a ≤ j by omega)]
        (repeat (first | (refine cj_region ?_; refine oj_run TT rfl ?_) | refine oj_nil ?_ | (refine oj_add rfl rfl rfl rfl rfl rfl (by omega) ?_; refine oj_run TT rfl ?_)))
        refine nj_again () trivial Nat.zero_lt_one rfl (by (repeat (first | exact trivial | refine And.intro rfl ?_))) (by (repeat (first | exact trivial | refine And.intro rfl ?_))) rfl (by (repeat' (first | exact trivial | constructor))) (by (repeat' exact trivial))
      · have h := of_decide_eq_false (show decide ((j : Int) ≥ a) = false from h)
        rw [if_neg (show ¬ a ≤ j by omega)]
        (repeat refine cj_skip ?_)
        refine nj_again () trivial Nat.zero_lt_one rfl (by (repeat (first | exact trivial | refine And.intro rfl ?_))) (by (repeat (first | exact trivial | refine And.intro rfl ?_))) rfl (by (repeat' (first | exact trivial | constructor))) (by (repeat' exact trivial))
    generalize (if a ≤ j then j + cntV hG else j : Nat) = q at *
    (repeat refine cj_seq ?_)
    refine cj_draw [(0,.pure),(1,.pure),(2,.pure),(3,.quiet),(4,.pure),(5,.pure),(6,.pure),(7,.quiet),(8,.pure)] mixed (by kernel_rfl) (oj_run TT rfl ?_)
    refine oj_idx TT rfl rfl rfl rfl rfl rfl rfl rfl rfl HN (by omega) hrow (oj_run TT rfl ?_)
    refine oj_idx TT rfl rfl rfl rfl rfl rfl rfl rfl rfl H (by omega) hrowL (oj_run TT rfl ?_)
    refine oj_neRec rj rj rfl rfl rfl rfl rfl rfl rfl (oj_run TT rfl ?_)
    (repeat refine oj_then ?_)
    refine cj_if rfl (fun h => absurd (show (!decide (rj = rj)) = true from h) (by simp)) (fun _ => ?_)
    (repeat (first | (refine cj_region ?_; refine oj_run TT rfl ?_) | refine oj_nil ?_ | refine cj_skip ?_ | refine nj_then ?_ | refine nj_block ?_ | (refine oj_add rfl rfl rfl rfl rfl rfl (by omega) ?_; refine oj_run TT rfl ?_)))
    refine nj_again (j + 1) hjl (by omega) rfl (by (repeat (first | exact trivial | refine And.intro rfl ?_))) (by (repeat (first | exact trivial | refine And.intro rfl ?_))) rfl (by (repeat' (first | exact trivial | constructor))) (by (repeat' exact trivial))
  (repeat (first | refine cj_seq ?_ | (refine cj_region ?_; refine oj_run TT rfl ?_) | refine oj_then ?_ | refine cj_ret ?_))
  refine nj_ret TT rfl fun β w' _ _ => ?_
  rfl
end Go.Sy
namespace Go.Sy
open Go.Proofs

/-! ### edits.Replace -/

set_option maxRecDepth 100000 in
set_option maxHeartbeats 1000000 in
theorem number17_c (σ : Snap) (r : GRec) (gr gx : Nat) (room : Int) (hr : ∀ (j : Nat) c, (recCells r)[j]? = some c → σ.cell ⟨gr, j, none⟩ = some c.val) (hx : σ.cell ⟨gx, 22, none⟩ = some (.int .i64 room)) (n m : Int) (hroom : room = r.en - r.st + 1) (h1 : -1 ≤ r.st ∧ r.st ≤ 1099511627776) (h2 : -1 ≤ r.en ∧ r.en ≤ 1099511627776) (hn : 0 ≤ n ∧ n ≤ 1000000) (hm : 1 ≤ m ∧ m ≤ 1000000) :
    PlainS Tryd.prog 117 [.a (.v (.int .i64 n)), .a (.v (.int .i64 m)), .a (.v (.pointer (some ⟨gr, 0, none⟩))), .a (.v (.pointer (some ⟨gx, 0, none⟩)))] σ (fun v => v = .int .i64 (repN r m n)) := by
  have hd : repN r m n = if n = 2 * m - 1 then r.en else r.st + (r.en - r.st + 1).tdiv (2 * m) * n := rfl
  rw [← hroom] at hd
  have c0 := hr 0 _ rfl
  have c1 := hr 1 _ rfl
  have hq := tdiv_bd (b := 2 * m) (show -1099511627778 ≤ room ∧ room ≤ 1099511627778 by omega)
  have hp := mul_bd (a := room.tdiv (2 * m)) (b := n) (c := 1099511627778) (d := 1000001) (by omega) (by omega)
  refine enter_p Tryd.func117 rfl rfl (by (repeat' (first | exact trivial | constructor))) fun w => ?_
  (repeat (first | refine cj_seq ?_ | (refine cj_region ?_; refine oj_run TT rfl ?_) | refine oj_then ?_))
  refine oj_mul rfl rfl rfl rfl rfl rfl (by omega) (oj_run TT rfl ?_)
  refine oj_minus rfl rfl rfl rfl rfl rfl (by omega) (oj_run TT rfl ?_)
  (repeat refine oj_then ?_)
  refine cj_if rfl (fun h => ?_) (fun h => ?_)
  · rw [if_pos (of_decide_eq_true h)] at hd
    (repeat (first | refine cj_seq ?_ | (refine cj_region ?_; refine oj_run TT rfl ?_)))
    refine oj_ldS (c := .v (.int .i64 r.en)) TT rfl rfl rfl rfl rfl rfl rfl rfl c1 trivial (oj_run TT rfl ?_)
    (repeat (first | refine oj_then ?_ | refine cj_ret ?_ | refine nj_then_ret ?_))
    refine nj_ret TT rfl fun β w' _ _ => ?_
    rw [hd]
    rfl
  · rw [if_neg (of_decide_eq_false h)] at hd
    (repeat (first | refine cj_seq ?_ | refine cj_skip ?_ | refine nj_then ?_))
    refine cj_draw [(0,.pure),(1,.quiet),(2,.pure),(3,.quiet),(4,.pure),(5,.pure),(6,.pure),(7,.pure),(8,.pure),(9,.pure),(10,.pure)] mixed (by kernel_rfl) (oj_run TT rfl ?_)
    refine oj_ldS (c := .v (.int .i64 r.st)) TT rfl rfl rfl rfl rfl rfl rfl rfl c0 trivial (oj_run TT rfl ?_)
    refine oj_ldS (c := .v (.int .i64 room)) TT rfl rfl rfl rfl rfl rfl rfl rfl hx trivial (oj_run TT rfl ?_)
    refine oj_mul rfl rfl rfl rfl rfl rfl (by omega) (oj_run TT rfl ?_)
    refine oj_quo rfl rfl rfl rfl rfl rfl (by omega) (by omega) (oj_run TT rfl ?_)
    refine oj_mul rfl rfl rfl rfl rfl rfl (by omega) (oj_run TT rfl ?_)
    refine oj_add rfl rfl rfl rfl rfl rfl (by omega) (oj_run TT rfl ?_)
    (repeat (first | refine oj_then ?_ | refine cj_ret ?_))
    refine nj_ret TT rfl fun β w' _ _ => ?_
    rw [hd]
    rfl

set_option maxRecDepth 100000 in
set_option maxHeartbeats 1000000 in
theorem Replace12_c (σ : Snap) (L : List GRec) (S : SndL L) (ao : Option Addr) (cap : Nat) (H : SlAt σ ao L.length cap 11 (recRows L)) (i : Int) (g : GVal) (r : List AT) (hr : RepV σ g r) (hW : 2 * recsW L + g.weight ≤ 100000) :
    PureS Tryd.prog 68 [.a (.v (.slice ao L.length cap)), .a (.v (.int .i64 i)), .agg r] σ (fun v σ' => ResOk σ' (replaceG L i g) v) := by
  obtain ⟨la, lc, lrows, ma, mc, vrows, rfl, V⟩ := hr.open
  have hrg : replaceG L i g = if placeE L i ≠ 0 then ⟨[], 0, 0, placeE L i⟩ else if sane g ≠ 0 then ⟨[], 0, 0, sane g⟩ else
    match L[i.toNat]? with
    | none => ⟨[], 0, 0, 1⟩
    | some r => runG L i.toNat (lastG L i.toNat + 1).toNat (laidG g r (repN r (cntS g))) (r.en - r.st + 1) := rfl
  refine enter_s Tryd.func68 rfl rfl (by (repeat' (first | exact trivial | exact vCells_lt _ _ _ _ _ _ | constructor))) fun w => ?_
  (repeat (first | refine cj_seq ?_ | (refine cj_region ?_; refine oj_run TT rfl ?_) | refine oj_then ?_))
  refine oj_callP rfl rfl rfl rfl rfl Tryd.call101 (by (repeat' (first | exact trivial | constructor))) (place12_c σ L S.ok ao cap H i) fun v hv => ⟨.a (.v (.int .i64 (placeE L i))), trivial, hv.symm, ?_⟩
  refine oj_run TT rfl ?_
  (repeat (first | refine cj_seq ?_ | (refine cj_region ?_; refine oj_run TT rfl ?_) | refine oj_then ?_))
  refine cj_cutN (fun (_ : Unit) => σ) (fun _ => [(0, .a (.v (.slice ao L.length cap))), (1, .a (.v (.int .i64 i))), (5, .a (.p 0 0)), (7, .a (.p 1 0)), (9, .a (.v (.int .i64 (if placeE L i ≠ 0 then placeE L i else sane g))))])
    (fun _ => [(0, .loc 27, vCells g la lc ma mc), (1, .loc 98, [.v (.int .i64 0), .v (.int .i64 0)])]) (fun _ => []) 2 (fun _ => True) ?_ (fun _ _ => ?_)
  · refine cj_if rfl (fun h => ?_) (fun h => ?_)
    · have h := of_decide_eq_true (show decide (placeE L i = 0) = true from h)
      rw [if_neg (by simp [h])]
      (repeat (refine cj_region ?_; refine oj_run TT rfl ?_))
      refine oj_callP rfl rfl rfl rfl rfl Tryd.call20 (by (repeat' (first | exact trivial | exact vCells_lt _ _ _ _ _ _ | constructor))) (Sane_c σ g _ V.rep (by omega)) fun v hv => ⟨.a (.v (.int .i64 (sane g))), trivial, hv.symm, ?_⟩
      refine oj_run TT rfl ?_
      (repeat refine oj_nil ?_)
      refine nj_again () trivial Nat.zero_lt_one rfl (by (repeat (first | exact trivial | refine And.intro rfl ?_))) (by (repeat (first | exact trivial | refine And.intro rfl ?_))) rfl (by (repeat' (first | exact trivial | exact Nat.le_of_ble_eq_true rfl | constructor))) (by (repeat' (first | exact trivial | exact Nat.le_of_ble_eq_true rfl | exact vCells_lt _ _ _ _ _ _ | refine AllLt.of ?_ | constructor)))
    · have h := of_decide_eq_false (show decide (placeE L i = 0) = false from h)
      rw [if_pos h]
      (repeat refine cj_skip ?_)
      refine nj_again () trivial Nat.zero_lt_one rfl (by (repeat (first | exact trivial | refine And.intro rfl ?_))) (by (repeat (first | exact trivial | refine And.intro rfl ?_))) rfl (by (repeat' (first | exact trivial | exact Nat.le_of_ble_eq_true rfl | constructor))) (by (repeat' (first | exact trivial | exact Nat.le_of_ble_eq_true rfl | exact vCells_lt _ _ _ _ _ _ | refine AllLt.of ?_ | constructor)))
  (repeat (first | refine cj_seq ?_ | (refine cj_region ?_; refine oj_run TT rfl ?_) | refine oj_then ?_))
  refine cj_if rfl (fun h => ?_) (fun h => ?_)
  · have h : (if placeE L i ≠ 0 then placeE L i else sane g) ≠ 0 := by simpa using (show (!decide ((if placeE L i ≠ 0 then placeE L i else sane g) = 0)) = true from h)
    have hrg2 : replaceG L i g = ⟨[], 0, 0, if placeE L i ≠ 0 then placeE L i else sane g⟩ := by
      rw [hrg]
      by_cases hp : placeE L i ≠ 0
      · rw [if_pos hp, if_pos hp]
      · rw [if_neg hp] at h
        rw [if_neg hp, if_pos h, if_neg hp]
    rw [hrg2]
    (repeat (first | refine cj_seq ?_ | (refine cj_region ?_; refine oj_run TT rfl ?_) | refine oj_then ?_ | refine cj_ret ?_ | refine nj_then_ret ?_))
    refine nj_ret TT rfl fun β w' _ _ => ?_
    exact bad_ok _ _
  have h : (if placeE L i ≠ 0 then placeE L i else sane g) = 0 := by simpa using (show (!decide ((if placeE L i ≠ 0 then placeE L i else sane g) = 0)) = false from h)
  have hp0 : placeE L i = 0 := by
    by_cases hp : placeE L i ≠ 0
    · rw [if_pos hp] at h; exact h
    · simpa using hp
  rw [if_neg (by simp [hp0])] at h
  have hsg : sane g = 0 := h
  rw [if_neg (by simp [hp0]), if_neg (by simp [h])] at hrg
  obtain ⟨hs, hi0, hil⟩ := place_ok hp0
  obtain ⟨i, rfl⟩ : ∃ j : Nat, i = j := ⟨i.toNat, by omega⟩
  rw [Int.toNat_natCast] at hrg
  have hi : i < L.length := by omega
  have hLi : L[i]? = some L[i] := List.getElem?_eq_getElem hi
  rw [hLi] at hrg
  dsimp only at hrg
  have hrow := recRows_get hLi
  have hnum := S.num hs L[i] (List.getElem_mem hi)
  have hlv := sound_levels hs
  have hlvi := hlv L[i] (List.getElem_mem hi)
  have hmemi : L[i] ∈ L := List.getElem_mem hi
  have hSL := S.len
  have hlb := lastG_bd L i hi
  obtain ⟨j, hj⟩ : ∃ j : Nat, lastG L i + 1 = j := ⟨(lastG L i + 1).toNat, by omega⟩
  rw [hj, Int.toNat_natCast] at hrg
  generalize L[i] = x at *
  (repeat (first | refine cj_seq ?_ | (refine cj_region ?_; refine oj_run TT rfl ?_) | refine cj_skip ?_ | refine nj_then ?_))
  refine oj_idx TT rfl rfl rfl rfl rfl rfl rfl rfl rfl H (by omega) hrow (oj_run TT rfl ?_)
  (repeat (first | refine cj_seq ?_ | refine oj_then ?_))
  refine cj_cutN (fun (_ : Unit) => σ) (fun _ => [(5, .a (.p 0 0)), (7, .a (.p 1 0)), (10, .a (.p 3 0)), (11, .a (.p 4 0))])
    (fun _ => [(1, .loc 98, [.v (.int .i64 0), .v (.int .i64 0)]), (3, .loc 36, recCells x), (4, .loc 159, [.v (.slice ao L.length cap), .v (.int .i64 i), .v (.int .i64 j)] ++ (recCells x ++ (vCells g la lc ma mc ++ [.v (.int .i64 (x.en - x.st + 1)), .v .nilFunc])))]) (fun _ => []) 5 (fun _ => True) ?_ (fun _ _ => ?_)
  · refine cj_drawG 17 [0, 1, 2, 3, 5, 8, 10, 12, 13, 14] mixed (by kernel_rfl) rfl ?_
    refine gj_val (i := 0) TT rfl (by kernel_rfl) (by kernel_rfl) rfl rfl rfl rfl rfl ?_
    refine gj_val (i := 1) TT rfl (by kernel_rfl) (by kernel_rfl) rfl rfl rfl rfl rfl ?_
    refine gj_val (i := 2) TT rfl (by kernel_rfl) (by kernel_rfl) rfl rfl rfl rfl rfl ?_
    refine gj_val (i := 3) TT rfl (by kernel_rfl) (by kernel_rfl) rfl rfl rfl rfl rfl ?_
    refine gj_val (i := 6) TT rfl (by kernel_rfl) (by kernel_rfl) rfl rfl rfl rfl rfl ?_
    refine gj_val (i := 7) TT rfl (by kernel_rfl) (by kernel_rfl) rfl rfl rfl rfl rfl ?_
    refine gj_val (i := 8) TT rfl (by kernel_rfl) (by kernel_rfl) rfl rfl rfl rfl rfl ?_
    refine gj_val (i := 9) TT rfl (by kernel_rfl) (by kernel_rfl) rfl rfl rfl rfl rfl ?_
    refine gj_val (i := 10) TT rfl (by kernel_rfl) (by kernel_rfl) rfl rfl rfl rfl rfl ?_
    refine gj_val (i := 11) TT rfl (by kernel_rfl) (by kernel_rfl) rfl rfl rfl rfl rfl ?_
    refine gj_minus (i := 12) rfl rfl (by kernel_rfl) (by kernel_rfl) rfl rfl rfl rfl rfl rfl (by omega) ?_
    refine gj_add (i := 13) rfl rfl (by kernel_rfl) (by kernel_rfl) rfl rfl rfl rfl rfl rfl (by omega) ?_
    refine gj_two (i := 4) (j := 15) (by kernel_rfl) ?_ ?_
    · refine gk_callP rfl rfl rfl rfl rfl Tryd.call40 (by (repeat' (first | exact trivial | constructor))) (Last_c σ L S.ok ao cap H i hi hs) fun v hv => ⟨.a (.v (.int .i64 (lastG L i))), trivial, hv.symm, ?_⟩
      refine gj_add (i := 5) rfl rfl (by kernel_rfl) (by kernel_rfl) rfl rfl rfl rfl rfl rfl (by omega) ?_
      rw [hj]
      refine gj_order [(14,.pure),(15,.keep),(16,.sink)] rfl rfl (by kernel_rfl) ?_
      refine oj_run TT rfl ?_
      (repeat refine oj_nil ?_)
      refine nj_again () trivial Nat.zero_lt_one rfl (by (repeat (first | exact trivial | refine And.intro rfl ?_))) (by (repeat (first | exact trivial | refine And.intro rfl ?_))) rfl (by (repeat' (first | exact trivial | exact Nat.le_of_ble_eq_true rfl | constructor))) (by (repeat' (first | exact trivial | exact Nat.le_of_ble_eq_true rfl | refine AllLt.of ?_ | constructor)))
    · refine gk_new TT rfl rfl rfl rfl rfl ?_
      refine gj_order [(4,.keep),(5,.pure),(14,.pure),(16,.sink)] rfl rfl (by kernel_rfl) ?_
      refine oj_callP rfl rfl rfl rfl rfl Tryd.call40 (by (repeat' (first | exact trivial | constructor))) (Last_c σ L S.ok ao cap H i hi hs) fun v hv => ⟨.a (.v (.int .i64 (lastG L i))), trivial, hv.symm, ?_⟩
      refine oj_run TT rfl ?_
      refine oj_add rfl rfl rfl rfl rfl rfl (by omega) (oj_run TT rfl ?_)
      rw [hj]
      refine oj_run TT rfl ?_
      (repeat refine oj_nil ?_)
      refine nj_again () trivial Nat.zero_lt_one rfl (by (repeat (first | exact trivial | refine And.intro rfl ?_))) (by (repeat (first | exact trivial | refine And.intro rfl ?_))) rfl (by (repeat' (first | exact trivial | exact Nat.le_of_ble_eq_true rfl | constructor))) (by (repeat' (first | exact trivial | exact Nat.le_of_ble_eq_true rfl | refine AllLt.of ?_ | constructor)))
  have hxn : x.name.size ≤ recsW L := by
    have : ∀ l : List GRec, x ∈ l → recW x ≤ recsW l := by
      intro l
      induction l with
      | nil => intro h; cases h
      | cons y l ih =>
        intro h
        rw [recsW]
        rcases List.mem_cons.1 h with rfl | h
        · omega
        · have := ih h; omega
    have := this L hmemi
    unfold recW at this
    omega
  refine cj_own 3 1 11 rfl (recCells_lt 0 x) rfl (by decide) fun gr => ?_
  refine cj_own 4 1 24 rfl (by (repeat' (first | exact trivial | refine AllLt.of ?_ | constructor))) rfl (by decide) fun gx => ?_
  (repeat (first | refine cj_seq ?_ | (refine cj_region ?_; refine oj_run TT rfl ?_)))
  refine oj_stA 1 (off := 23) (c := .fn (.func 117) [ptrTo gr, ptrTo gx]) (A' := [⟨some ⟨gr, 0, none⟩, 1, 1, 36, 11, (recCells x).map AT.val⟩, ⟨some ⟨gx, 0, none⟩, 1, 1, 159, 24, (editCells ao L.length cap i j x (vCells g la lc ma mc) (x.en - x.st + 1) 117 [ptrTo gr, ptrTo gx]).map AT.val⟩]) TT rfl rfl rfl rfl (by rw [add0]; rfl) rfl rfl rfl rfl rfl (by show 23 < 1 * 24; omega) (fn_lt_caps (f := .func 117) (caps := [ptrTo gr, ptrTo gx]) ⟨trivial, trivial, trivial⟩ 0) rfl rfl (oj_run TT rfl ?_)
  (repeat (first | refine cj_seq ?_ | (refine cj_region ?_; refine oj_run TT rfl ?_) | refine oj_then ?_))
  refine oj_seal 0 rfl rfl rfl fun σ1 hle1 hS1 => ?_
  refine oj_seal 0 rfl rfl rfl fun σ2 hle2 hS2 => ?_
  have hcr : ∀ (q : Nat) c, (recCells x)[q]? = some c → σ1.cell ⟨gr, q, none⟩ = some c.val := fun q c hq => by
    rcases hS1 with ⟨h, _⟩ | ⟨g', h1, h2⟩
    · cases h
    · obtain rfl : gr = g' := by simpa using h1
      exact h2 q _ (by show (List.map AT.val (recCells x))[q]? = _; rw [List.getElem?_map, hq]; rfl)
  have hcx : ∀ (q : Nat) c, (editCells ao L.length cap i j x (vCells g la lc ma mc) (x.en - x.st + 1) 117 [ptrTo gr, ptrTo gx])[q]? = some c → σ2.cell ⟨gx, q, none⟩ = some c.val := fun q c hq => by
    rcases hS2 with ⟨h, _⟩ | ⟨g', h1, h2⟩
    · cases h
    · obtain rfl : gx = g' := by simpa using h1
      exact h2 q _ (by show (List.map AT.val (editCells ao L.length cap i j x (vCells g la lc ma mc) (x.en - x.st + 1) 117 [ptrTo gr, ptrTo gx]))[q]? = _; rw [List.getElem?_map, hq]; rfl)
  have hlt := edit_lt (g := g) (la := la) (lc := lc) (ma := ma) (mc := mc) ao L.length cap (i : Int) (j : Int) x (x.en - x.st + 1) 117 (caps := [ptrTo gr, ptrTo gx]) ⟨trivial, trivial, trivial⟩ 0
  refine oj_row 11 (editCells ao L.length cap i j x (vCells g la lc ma mc) (x.en - x.st + 1) 117 [ptrTo gr, ptrTo gx]) rfl hlt (fun q c hq => by rw [add0]; exact hcx q c hq) (oj_run TT rfl ?_)
  have H := H.mono (Snap.le_trans hle1 hle2)
  have V := V.monoC (Snap.le_trans hle1 hle2).cle
  have hct : cntS g = (shredV 1 g 0 false emptyS 0).1.length := rfl
  have hcw : cntS g ≤ 100000 := by rw [hct]; have := (shredV_len 1 g 0 false emptyS 0).1; omega
  have hcp : 1 ≤ cntS g := by rw [cntS_eq V.rep.wf]; exact cntV_pos g
  have hlw := laid_w g x (repN x (cntS g))
  have hsw := spliced_w L (laidG g x (repN x (cntS g))) i j (by omega)
  have hrc := run_c σ2 g la lc lrows ma mc vrows V (by omega) hsg L ao cap H (by omega) i j (by omega) (by omega) x ⟨hlvi.1, by omega⟩ (x.en - x.st + 1) 117 [ptrTo gr, ptrTo gx] ⟨trivial, trivial, trivial⟩ Tryd.call117
    (repN x (cntS g)) (fun σ' hle' q h0 h1 => number17_c σ' x gr gx (x.en - x.st + 1) (fun q c hq => (Snap.le_trans hle2 hle').cell (hcr q c hq)) (hle'.cell (hcx 22 _ rfl)) q _ rfl ⟨hnum.1, hnum.2.1⟩ ⟨hnum.2.2.1, hnum.2.2.2⟩ (by omega) (by omega))
    (spliced_fit S.ok.fit (laid_fit V.rep x (S.ok.fit x hmemi).2.2 _) i j) (by omega) (fun q hq => by
      rcases spliced_mem hq with hq | hq
      · exact (hlv q hq).1
      · exact laid_lv V.rep.wf x hlvi.1 _ q hq)
  rw [hrg]
  generalize runG L i j (laidG g x (repN x (cntS g))) (x.en - x.st + 1) = R at *
  refine oj_callS (ys := [.agg (editCells ao L.length cap (i : Int) (j : Int) x (vCells g la lc ma mc) (x.en - x.st + 1) 117 [ptrTo gr, ptrTo gx])]) rfl rfl rfl rfl rfl Tryd.call105 ⟨hlt, trivial⟩ hrc fun v σ4 hle4 ⟨bo, bc, hv, HR⟩ => ⟨.tup [.a (.v (.slice bo R.l.length bc)), .agg [.v (.int .i64 R.laid), .v (.int .i64 R.moved)], .a (.v (.int .i64 R.e))], (by (repeat' (first | exact trivial | refine AllLt.of ?_ | refine SV.lt_tup ?_ | constructor))), hv.symm, ?_⟩
  refine oj_run TT rfl ?_
  (repeat (first | refine oj_then ?_ | refine cj_ret ?_))
  refine nj_ret TT rfl fun β w' _ _ => ?_
  exact ⟨bo, bc, rfl, HR⟩
end Go.Sy
