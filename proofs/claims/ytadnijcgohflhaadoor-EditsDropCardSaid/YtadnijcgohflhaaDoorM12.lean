/- Parts of the proof of CEditsDrop: F59, F60, F57, F58, F61, XCl, XRow, CFacts. No conditions. -/
import Derived.Test.YtadnijcgohflhaaDoorM11
import Derived.Carry
import Derived.RowKit
import Derived.ChangeStays
import Derived.ChangeSame
import Derived.ReadAgain
import Derived.SizedLaws
import Derived.Deep.DeepHandedRow
import Derived.ProofKit
import Derived.OpenShut
import Derived.Lay
import Derived.SevenTiedAt
import Derived.Stop.Joined
import Derived.Test.YtadnijcgohflhaaDoorCards
import Derived.Test.YtadnijcgohflhaaDoorTie
namespace Go.Sy
open Go.Proofs

/-! ### value.at -/

theorem its_kind {g : GVal} (hd : kinds g) {m : Nat} {x : Itm} (hx : (its g)[m]? = some x) : g.kind = if (stepOf m x).named then 5 else 4 := by
  obtain ⟨k4, k5, -, -⟩ := (kinds_eq g).1 hd
  show g.kind = if x.nm then 5 else 4
  rcases its_split hx with ⟨h1, h2, h3⟩ | ⟨h1, h2, h3, h4⟩
  · rw [h1, if_neg (by decide)]
    exact k4 (fun e => by rw [e] at h2; simp at h2)
  · rw [h1, if_pos rfl]
    exact k5 (fun e => by rw [e] at h3; simp at h3)

/-- What a change does at its last step. -/
def DoOk (f : FuncId) (caps : List PT) (σ : Snap) (hp hp' : GVal) (s : GStep) : Prop :=
  ∀ σ', σ.le σ' → ∀ la lc lrows ma mc vrows, VAt σ' hp la lc lrows ma mc vrows →
    PureS Tryd.prog f (.agg (vCells hp la lc ma mc) :: .agg (stepCells s) :: .a .tt :: caps.map ptSV) σ' (fun v σ'' => ∃ r, v = (SV.tup [.agg r, .a (.v (.int .i64 0))]).den β0 ∧ RepV σ'' hp' r)
structure CellQ where
  la : Option Addr
  lc : Nat
  ma : Option Addr
  mc : Nat
structure CellS where
  σ : Snap
  q : CellQ

set_option maxRecDepth 100000 in
set_option maxHeartbeats 1000000 in
theorem vat_c (f : FuncId) (caps : List PT) (hcap : LtAll (caps.map ptSV)) (hcall : ∀ args w, (callFunc f args).run Tryd.prog w = .ok (.enter f args) w) : ∀ (P : List GStep) (σ : Snap) (g g' hp hp' : GVal) (m : Nat) (x : Itm), Swap g g' P hp hp' → g.wf → keysOk g → kinds g → g.weight ≤ 1000000 → P.length ≤ 1000000 → (its hp)[m]? = some x → DoOk f caps σ hp hp' (stepOf m x) →
    ∀ la lc lrows ma mc vrows, VAt σ g la lc lrows ma mc vrows → ∀ (so : Option Addr) (N sc : Nat), N = P.length + 1 → SlAt σ so N sc 3 (stepRows (P ++ [stepOf m x])) →
    PureS Tryd.prog 108 [.agg (vCells g la lc ma mc), .a (.v (.slice so N sc)), .a (.fn (.func f) caps)] σ (fun v σ' => ∃ r, v = (SV.tup [.agg r, .a (.v (.int .i64 0))]).den β0 ∧ RepV σ' g' r) := by
  have hflt : ∀ n, (SV.a (.fn (.func f) caps)).lt n := fun n => fn_lt_caps (f := .func f) hcap n
  intro P
  induction P with
  | nil =>
    intro σ g g' hp hp' m x hsw hw hk hd hgw hPl hx hdo la lc lrows ma mc vrows V so N sc hN S
    cases hsw
    have hkind := its_kind hd hx
    have hstep := stepV_its hk hd hx
    have hrow0 : (stepRows ([] ++ [stepOf m x]))[(0 : Int).toNat]? = some (stepCells (stepOf m x)) := rfl
    rw [List.length_nil] at hN
    generalize stepOf m x = s0 at *
    generalize hy0 : x = y0 at hstep
    refine enter_s Tryd.func108 rfl rfl ⟨vCells_lt _ _ _ _ _ _, trivial, hflt 0, trivial⟩ fun w => ?_
    (repeat (first | refine cj_seq ?_ | (refine cj_region ?_; refine oj_run TT rfl ?_) | refine oj_then ?_))
    refine oj_idx TT rfl rfl rfl rfl rfl rfl rfl rfl rfl S (by omega) hrow0 (oj_run TT rfl ?_)
    (repeat refine oj_then ?_)
    refine cj_cutN (fun (_ : Unit) => σ) (fun _ => [(1, .a (.v (.slice so N sc))), (2, .a (.fn (.func f) caps)), (3, .a (.p 0 0)), (6, .a (.p 1 0)), (8, .a (.v (.int .i64 g.kind)))])
      (fun _ => [(0, .loc 27, vCells g la lc ma mc), (1, .loc 27, zeroV)]) (fun _ => []) 2 (fun _ => True) ?_ (fun _ _ => ?_)
    · refine cj_if rfl (fun h => ?_) (fun h => ?_)
      · have hn : s0.named = true := h
        rw [hn, if_pos rfl] at hkind
        (repeat (first | (refine cj_region ?_; refine oj_run TT rfl ?_) | refine oj_nil ?_))
        refine nj_set 8 (.a (.v (.int .i64 g.kind))) rfl trivial (fun β => by rw [hkind]) ?_
        refine nj_again () trivial Nat.zero_lt_one rfl (by (repeat (first | exact trivial | refine And.intro rfl ?_))) (by (repeat (first | exact trivial | refine And.intro rfl ?_))) rfl ⟨trivial, hflt 2, Nat.le_of_ble_eq_true rfl, Nat.le_of_ble_eq_true rfl, trivial, trivial⟩ (by (repeat' (first | exact trivial | exact Nat.le_of_ble_eq_true rfl | exact vCells_lt _ _ _ _ _ _ | refine AllLt.of ?_ | constructor)))
      · have hn : s0.named = false := h
        rw [hn, if_neg (by decide)] at hkind
        (repeat refine cj_skip ?_)
        refine nj_set 8 (.a (.v (.int .i64 g.kind))) rfl trivial (fun β => by rw [hkind]) ?_
        refine nj_again () trivial Nat.zero_lt_one rfl (by (repeat (first | exact trivial | refine And.intro rfl ?_))) (by (repeat (first | exact trivial | refine And.intro rfl ?_))) rfl ⟨trivial, hflt 2, Nat.le_of_ble_eq_true rfl, Nat.le_of_ble_eq_true rfl, trivial, trivial⟩ (by (repeat' (first | exact trivial | exact Nat.le_of_ble_eq_true rfl | exact vCells_lt _ _ _ _ _ _ | refine AllLt.of ?_ | constructor)))
    (repeat (first | refine cj_seq ?_ | (refine cj_region ?_; refine oj_run TT rfl ?_) | refine oj_then ?_))
    refine cj_if rfl (fun h => absurd (show (!decide (g.kind = g.kind)) = true from h) (by simp)) (fun _ => ?_)
    refine cj_skip ?_
    refine nj_then ?_
    refine cj_seq ?_
    refine cj_cutN (fun (_ : CellQ) => σ) (fun _ => [(1, .a (.v (.slice so N sc))), (2, .a (.fn (.func f) caps)), (3, .a (.p 0 0)), (6, .a (.p 1 0)), (9, .a (.p 3 0)), (10, .a .tt)])
      (fun q => [(0, .loc 27, vCells g la lc ma mc), (1, .loc 27, zeroV), (3, .loc 27, vCells y0.v q.la q.lc q.ma q.mc)]) (fun _ => []) 4 (fun q => RepV σ y0.v (vCells y0.v q.la q.lc q.ma q.mc)) ?_ (fun q hq => ?_)
    · refine cj_drawG 11 [1, 2, 5, 6, 7, 10] mixed (by kernel_rfl) rfl ?_
      refine gj_val (i := 0) TT rfl (by kernel_rfl) (by kernel_rfl) rfl rfl rfl rfl rfl ?_
      refine gj_val (i := 1) TT rfl (by kernel_rfl) (by kernel_rfl) rfl rfl rfl rfl rfl ?_
      refine gj_idx (i := 2) TT rfl rfl (by kernel_rfl) (by kernel_rfl) rfl rfl rfl rfl rfl rfl rfl rfl rfl S (by omega) hrow0 ?_
      refine gj_val (i := 3) TT rfl (by kernel_rfl) (by kernel_rfl) rfl rfl rfl rfl rfl ?_
      refine gj_two (i := 4) (j := 8) (by kernel_rfl) ?_ ?_
      · refine gk_callP rfl rfl rfl rfl rfl Tryd.call90 ⟨vCells_lt _ _ _ _ _ _, (by (repeat' (first | exact trivial | refine AllLt.of ?_ | constructor))), trivial⟩ (step_c σ g la lc lrows ma mc vrows V s0) fun v hv => ?_
        rw [hstep] at hv
        obtain ⟨rr, hv, hrep⟩ := hv
        obtain ⟨la', lc', lrows', ma', mc', vrows', rfl, V'⟩ := RepV.open (g := y0.v) hrep
        refine ⟨.tup [.agg (vCells y0.v la' lc' ma' mc'), .a .tt], (by (repeat' (first | exact trivial | exact vCells_lt _ _ _ _ _ _ | refine SV.lt_tup ?_ | constructor))), hv.symm, ?_⟩
        refine gj_order [(5,.pure),(6,.pure),(7,.pure),(8,.keep),(9,.sink),(10,.pure)] rfl rfl (by kernel_rfl) ?_
        refine oj_run TT rfl ?_
        (repeat refine oj_nil ?_)
        refine nj_again (⟨la', lc', ma', mc'⟩ : CellQ) V'.rep Nat.zero_lt_one rfl (by (repeat (first | exact trivial | refine And.intro rfl ?_))) (by (repeat (first | exact trivial | refine And.intro rfl ?_))) rfl ⟨trivial, hflt 4, Nat.le_of_ble_eq_true rfl, Nat.le_of_ble_eq_true rfl, Nat.le_of_ble_eq_true rfl, trivial, trivial⟩ (by (repeat' (first | exact trivial | exact Nat.le_of_ble_eq_true rfl | exact vCells_lt _ _ _ _ _ _ | refine AllLt.of ?_ | constructor)))
      · refine gk_new TT rfl rfl rfl rfl rfl ?_
        refine gj_order [(4,.keep),(5,.pure),(6,.pure),(7,.pure),(9,.sink),(10,.pure)] rfl rfl (by kernel_rfl) ?_
        refine oj_callP rfl rfl rfl rfl rfl Tryd.call90 ⟨vCells_lt _ _ _ _ _ _, (by (repeat' (first | exact trivial | refine AllLt.of ?_ | constructor))), trivial⟩ (step_c σ g la lc lrows ma mc vrows V s0) fun v hv => ?_
        rw [hstep] at hv
        obtain ⟨rr, hv, hrep⟩ := hv
        obtain ⟨la', lc', lrows', ma', mc', vrows', rfl, V'⟩ := RepV.open (g := y0.v) hrep
        refine ⟨.tup [.agg (vCells y0.v la' lc' ma' mc'), .a .tt], (by (repeat' (first | exact trivial | exact vCells_lt _ _ _ _ _ _ | refine SV.lt_tup ?_ | constructor))), hv.symm, ?_⟩
        refine oj_run TT rfl ?_
        (repeat refine oj_nil ?_)
        refine nj_again (⟨la', lc', ma', mc'⟩ : CellQ) V'.rep Nat.zero_lt_one rfl (by (repeat (first | exact trivial | refine And.intro rfl ?_))) (by (repeat (first | exact trivial | refine And.intro rfl ?_))) rfl ⟨trivial, hflt 4, Nat.le_of_ble_eq_true rfl, Nat.le_of_ble_eq_true rfl, Nat.le_of_ble_eq_true rfl, trivial, trivial⟩ (by (repeat' (first | exact trivial | exact Nat.le_of_ble_eq_true rfl | exact vCells_lt _ _ _ _ _ _ | refine AllLt.of ?_ | constructor)))
    obtain ⟨qla, qlc, qma, qmc⟩ := q
    dsimp only at hq ⊢
    (repeat (first | refine cj_seq ?_ | (refine cj_region ?_; refine oj_run TT rfl ?_) | refine oj_then ?_ | refine cj_block ?_))
    refine cj_if rfl (fun _ => ?_) (fun h => absurd (of_decide_eq_false (show decide ((N : Int) = 1) = false from h)) (by omega))
    (repeat refine cj_seq ?_)
    refine cj_draw [(0,.pure),(1,.quiet),(2,.pure),(3,.pure),(4,.quiet),(5,.pure),(6,.keep),(7,.pure),(8,.pure),(9,.sink),(10,.pure)] mixed (by kernel_rfl) (oj_run TT rfl ?_)
    refine oj_idx TT rfl rfl rfl rfl rfl rfl rfl rfl rfl S (by omega) hrow0 (oj_run TT rfl ?_)
    refine oj_callS (ys := .agg (vCells g la lc ma mc) :: .agg (stepCells s0) :: .a .tt :: caps.map ptSV) rfl rfl rfl rfl rfl hcall ⟨vCells_lt _ _ _ _ _ _, (by (repeat' (first | exact trivial | refine AllLt.of ?_ | constructor))), trivial, hcap⟩ (hdo σ (Snap.le_refl _) la lc lrows ma mc vrows V) fun v σ2 hle2 ⟨r2, hv, hrep⟩ => ⟨.tup [.agg r2, .a (.v (.int .i64 0))], SV.lt_tup ⟨hrep.clo, trivial, trivial⟩, hv.symm, ?_⟩
    obtain ⟨la2, lc2, lrows2, ma2, mc2, vrows2, rfl, V2⟩ := hrep.open
    refine oj_run TT rfl ?_
    (repeat (first | refine oj_then ?_ | refine cj_ret ?_ | refine nj_then_ret ?_ | refine nj_block_ret ?_))
    refine nj_ret TT rfl fun β w' _ _ => ?_
    exact ⟨_, rfl, V2.rep⟩
  | cons sq P ih =>
    intro σ g g' hp hp' m x hsw hw hk hd hgw hPl hx hdo la lc lrows ma mc vrows V so N sc hN S
    rw [List.length_cons] at hN hPl
    generalize hQ : sq :: P = Q at hsw
    cases hsw with
    | refl => cases hQ
    | @step _ v' n0 y0 P0 _ _ hy0 hs0 =>
    obtain ⟨e1, e2⟩ := List.cons.inj hQ
    subst e1 e2
    have hkind := its_kind hd hy0
    have hstep := stepV_its hk hd hy0
    have hrow0 : (stepRows (stepOf n0 y0 :: P ++ [stepOf m x]))[(0 : Int).toNat]? = some (stepCells (stepOf n0 y0)) := rfl
    have hmem := List.mem_of_getElem? hy0
    have hyw := in_weight (its_mem hw hmem)
    have hlay := fun σ' V0 y yla ylc ylrows yma ymc yvrows Y => lay_c σ' g la lc lrows ma mc vrows V0 (by omega) hk hy0 y yla ylc ylrows yma ymc yvrows Y
    have hss : ((stepRows (stepOf n0 y0 :: P ++ [stepOf m x])).take N).drop 1 = stepRows (P ++ [stepOf m x]) := by
      have hl : (stepRows (stepOf n0 y0 :: P ++ [stepOf m x])).length = N := S.len
      rw [List.take_of_length_le (by omega)]
      rfl
    generalize hs00 : stepOf n0 y0 = s0 at *
    refine enter_s Tryd.func108 rfl rfl ⟨vCells_lt _ _ _ _ _ _, trivial, hflt 0, trivial⟩ fun w => ?_
    (repeat (first | refine cj_seq ?_ | (refine cj_region ?_; refine oj_run TT rfl ?_) | refine oj_then ?_))
    refine oj_idx TT rfl rfl rfl rfl rfl rfl rfl rfl rfl S (by omega) hrow0 (oj_run TT rfl ?_)
    (repeat refine oj_then ?_)
    refine cj_cutN (fun (_ : Unit) => σ) (fun _ => [(1, .a (.v (.slice so N sc))), (2, .a (.fn (.func f) caps)), (3, .a (.p 0 0)), (6, .a (.p 1 0)), (8, .a (.v (.int .i64 g.kind)))])
      (fun _ => [(0, .loc 27, vCells g la lc ma mc), (1, .loc 27, zeroV)]) (fun _ => []) 2 (fun _ => True) ?_ (fun _ _ => ?_)
    · refine cj_if rfl (fun h => ?_) (fun h => ?_)
      · have hn : s0.named = true := h
        rw [hn, if_pos rfl] at hkind
        (repeat (first | (refine cj_region ?_; refine oj_run TT rfl ?_) | refine oj_nil ?_))
        refine nj_set 8 (.a (.v (.int .i64 g.kind))) rfl trivial (fun β => by rw [hkind]) ?_
        refine nj_again () trivial Nat.zero_lt_one rfl (by (repeat (first | exact trivial | refine And.intro rfl ?_))) (by (repeat (first | exact trivial | refine And.intro rfl ?_))) rfl ⟨trivial, hflt 2, Nat.le_of_ble_eq_true rfl, Nat.le_of_ble_eq_true rfl, trivial, trivial⟩ (by (repeat' (first | exact trivial | exact Nat.le_of_ble_eq_true rfl | exact vCells_lt _ _ _ _ _ _ | refine AllLt.of ?_ | constructor)))
      · have hn : s0.named = false := h
        rw [hn, if_neg (by decide)] at hkind
        (repeat refine cj_skip ?_)
        refine nj_set 8 (.a (.v (.int .i64 g.kind))) rfl trivial (fun β => by rw [hkind]) ?_
        refine nj_again () trivial Nat.zero_lt_one rfl (by (repeat (first | exact trivial | refine And.intro rfl ?_))) (by (repeat (first | exact trivial | refine And.intro rfl ?_))) rfl ⟨trivial, hflt 2, Nat.le_of_ble_eq_true rfl, Nat.le_of_ble_eq_true rfl, trivial, trivial⟩ (by (repeat' (first | exact trivial | exact Nat.le_of_ble_eq_true rfl | exact vCells_lt _ _ _ _ _ _ | refine AllLt.of ?_ | constructor)))
    (repeat (first | refine cj_seq ?_ | (refine cj_region ?_; refine oj_run TT rfl ?_) | refine oj_then ?_))
    refine cj_if rfl (fun h => absurd (show (!decide (g.kind = g.kind)) = true from h) (by simp)) (fun _ => ?_)
    refine cj_skip ?_
    refine nj_then ?_
    refine cj_seq ?_
    refine cj_cutN (fun (_ : CellQ) => σ) (fun _ => [(1, .a (.v (.slice so N sc))), (2, .a (.fn (.func f) caps)), (3, .a (.p 0 0)), (6, .a (.p 1 0)), (9, .a (.p 3 0)), (10, .a .tt)])
      (fun q => [(0, .loc 27, vCells g la lc ma mc), (1, .loc 27, zeroV), (3, .loc 27, vCells y0.v q.la q.lc q.ma q.mc)]) (fun _ => []) 4 (fun q => RepV σ y0.v (vCells y0.v q.la q.lc q.ma q.mc)) ?_ (fun q hq => ?_)
    · refine cj_drawG 11 [1, 2, 5, 6, 7, 10] mixed (by kernel_rfl) rfl ?_
      refine gj_val (i := 0) TT rfl (by kernel_rfl) (by kernel_rfl) rfl rfl rfl rfl rfl ?_
      refine gj_val (i := 1) TT rfl (by kernel_rfl) (by kernel_rfl) rfl rfl rfl rfl rfl ?_
      refine gj_idx (i := 2) TT rfl rfl (by kernel_rfl) (by kernel_rfl) rfl rfl rfl rfl rfl rfl rfl rfl rfl S (by omega) hrow0 ?_
      refine gj_val (i := 3) TT rfl (by kernel_rfl) (by kernel_rfl) rfl rfl rfl rfl rfl ?_
      refine gj_two (i := 4) (j := 8) (by kernel_rfl) ?_ ?_
      · refine gk_callP rfl rfl rfl rfl rfl Tryd.call90 ⟨vCells_lt _ _ _ _ _ _, (by (repeat' (first | exact trivial | refine AllLt.of ?_ | constructor))), trivial⟩ (step_c σ g la lc lrows ma mc vrows V s0) fun v hv => ?_
        rw [hstep] at hv
        obtain ⟨rr, hv, hrep⟩ := hv
        obtain ⟨la', lc', lrows', ma', mc', vrows', rfl, V'⟩ := RepV.open (g := y0.v) hrep
        refine ⟨.tup [.agg (vCells y0.v la' lc' ma' mc'), .a .tt], (by (repeat' (first | exact trivial | exact vCells_lt _ _ _ _ _ _ | refine SV.lt_tup ?_ | constructor))), hv.symm, ?_⟩
        refine gj_order [(5,.pure),(6,.pure),(7,.pure),(8,.keep),(9,.sink),(10,.pure)] rfl rfl (by kernel_rfl) ?_
        refine oj_run TT rfl ?_
        (repeat refine oj_nil ?_)
        refine nj_again (⟨la', lc', ma', mc'⟩ : CellQ) V'.rep Nat.zero_lt_one rfl (by (repeat (first | exact trivial | refine And.intro rfl ?_))) (by (repeat (first | exact trivial | refine And.intro rfl ?_))) rfl ⟨trivial, hflt 4, Nat.le_of_ble_eq_true rfl, Nat.le_of_ble_eq_true rfl, Nat.le_of_ble_eq_true rfl, trivial, trivial⟩ (by (repeat' (first | exact trivial | exact Nat.le_of_ble_eq_true rfl | exact vCells_lt _ _ _ _ _ _ | refine AllLt.of ?_ | constructor)))
      · refine gk_new TT rfl rfl rfl rfl rfl ?_
        refine gj_order [(4,.keep),(5,.pure),(6,.pure),(7,.pure),(9,.sink),(10,.pure)] rfl rfl (by kernel_rfl) ?_
        refine oj_callP rfl rfl rfl rfl rfl Tryd.call90 ⟨vCells_lt _ _ _ _ _ _, (by (repeat' (first | exact trivial | refine AllLt.of ?_ | constructor))), trivial⟩ (step_c σ g la lc lrows ma mc vrows V s0) fun v hv => ?_
        rw [hstep] at hv
        obtain ⟨rr, hv, hrep⟩ := hv
        obtain ⟨la', lc', lrows', ma', mc', vrows', rfl, V'⟩ := RepV.open (g := y0.v) hrep
        refine ⟨.tup [.agg (vCells y0.v la' lc' ma' mc'), .a .tt], (by (repeat' (first | exact trivial | exact vCells_lt _ _ _ _ _ _ | refine SV.lt_tup ?_ | constructor))), hv.symm, ?_⟩
        refine oj_run TT rfl ?_
        (repeat refine oj_nil ?_)
        refine nj_again (⟨la', lc', ma', mc'⟩ : CellQ) V'.rep Nat.zero_lt_one rfl (by (repeat (first | exact trivial | refine And.intro rfl ?_))) (by (repeat (first | exact trivial | refine And.intro rfl ?_))) rfl ⟨trivial, hflt 4, Nat.le_of_ble_eq_true rfl, Nat.le_of_ble_eq_true rfl, Nat.le_of_ble_eq_true rfl, trivial, trivial⟩ (by (repeat' (first | exact trivial | exact Nat.le_of_ble_eq_true rfl | exact vCells_lt _ _ _ _ _ _ | refine AllLt.of ?_ | constructor)))
    obtain ⟨qla, qlc, qma, qmc⟩ := q
    dsimp only at hq ⊢
    (repeat (first | refine cj_seq ?_ | (refine cj_region ?_; refine oj_run TT rfl ?_) | refine oj_then ?_ | refine cj_block ?_))
    refine cj_if rfl (fun h => absurd (of_decide_eq_true (show decide ((N : Int) = 1) = true from h)) (by omega)) (fun _ => ?_)
    (repeat (first | refine cj_seq ?_ | (refine cj_region ?_; refine oj_run TT rfl ?_) | refine oj_then ?_ | refine cj_if_f rfl ?_ | refine cj_skip ?_ | refine nj_then ?_ | refine nj_block ?_))
    have S1 := S.sub (l := 1) (k := N) (by omega) (Nat.le_refl _)
    rw [hss] at S1
    obtain ⟨la', lc', lrows', ma', mc', vrows', hcc, V'⟩ := hq.open
    rw [hcc]
    have hrec := ih σ y0.v v' hp hp' m x hs0 (its_wf hw hmem) (its_keys hw hk hmem) (its_kinds hw hd hmem) (by omega) (by omega) hx hdo la' lc' lrows' ma' mc' vrows' V' _ (N - 1) _ (by omega) S1
    refine cj_cutN (fun (s : CellS) => s.σ) (fun _ => [(1, .a (.v (.slice so N sc))), (3, .a (.p 0 0)), (6, .a (.p 1 0)), (11, .a (.p 4 0)), (12, .a (.v (.int .i64 0)))])
      (fun s => [(0, .loc 27, vCells g la lc ma mc), (1, .loc 27, zeroV), (4, .loc 27, vCells v' s.q.la s.q.lc s.q.ma s.q.mc)]) (fun _ => []) 5 (fun s => σ.le s.σ ∧ RepV s.σ v' (vCells v' s.q.la s.q.lc s.q.ma s.q.mc)) ?_ (fun s ⟨hle, hq2⟩ => ?_)
    · refine cj_drawG 11 [1, 2, 3, 5, 6, 7, 10] mixed (by kernel_rfl) rfl ?_
      refine gj_val (i := 0) TT rfl (by kernel_rfl) (by kernel_rfl) rfl rfl rfl rfl rfl ?_
      refine gj_val (i := 1) TT rfl (by kernel_rfl) (by kernel_rfl) rfl rfl rfl rfl rfl ?_
      refine gj_slice (i := 2) TT 1 N rfl rfl (by kernel_rfl) (by kernel_rfl) rfl rfl rfl rfl rfl rfl rfl rfl rfl rfl (.inr ⟨_, _, rfl, rfl⟩) (.inl ⟨rfl, rfl⟩) (by omega) S.ncap S.ncap ?_
      refine gj_val (i := 3) TT rfl (by kernel_rfl) (by kernel_rfl) rfl rfl rfl rfl rfl ?_
      refine gj_two (i := 4) (j := 8) (by kernel_rfl) ?_ ?_
      · refine gk_call rfl rfl rfl rfl rfl Tryd.call108 ⟨vCells_lt _ _ _ _ _ _, trivial, hflt 0, trivial⟩ hrec fun v σ2 hle2 ⟨r2, hv, hrep⟩ => ⟨.tup [.agg r2, .a (.v (.int .i64 0))], SV.lt_tup ⟨hrep.clo, trivial, trivial⟩, hv.symm, ?_⟩
        obtain ⟨la2, lc2, lrows2, ma2, mc2, vrows2, rfl, V2⟩ := hrep.open
        refine gj_order [(5,.pure),(6,.pure),(7,.pure),(8,.keep),(9,.sink),(10,.pure)] rfl rfl (by kernel_rfl) ?_
        refine oj_run TT rfl ?_
        (repeat refine oj_nil ?_)
        refine nj_again (⟨σ2, ⟨la2, lc2, ma2, mc2⟩⟩ : CellS) ⟨hle2, V2.rep⟩ Nat.zero_lt_one rfl (by (repeat (first | exact trivial | refine And.intro rfl ?_))) (by (repeat (first | exact trivial | refine And.intro rfl ?_))) rfl (by (repeat' (first | exact trivial | exact Nat.le_of_ble_eq_true rfl | constructor))) (by (repeat' (first | exact trivial | exact Nat.le_of_ble_eq_true rfl | exact vCells_lt _ _ _ _ _ _ | refine AllLt.of ?_ | constructor)))
      · refine gk_new TT rfl rfl rfl rfl rfl ?_
        refine gj_order [(4,.keep),(5,.pure),(6,.pure),(7,.pure),(9,.sink),(10,.pure)] rfl rfl (by kernel_rfl) ?_
        refine oj_callS rfl rfl rfl rfl rfl Tryd.call108 ⟨vCells_lt _ _ _ _ _ _, trivial, hflt 0, trivial⟩ hrec fun v σ2 hle2 ⟨r2, hv, hrep⟩ => ⟨.tup [.agg r2, .a (.v (.int .i64 0))], SV.lt_tup ⟨hrep.clo, trivial, trivial⟩, hv.symm, ?_⟩
        obtain ⟨la2, lc2, lrows2, ma2, mc2, vrows2, rfl, V2⟩ := hrep.open
        refine oj_run TT rfl ?_
        (repeat refine oj_nil ?_)
        refine nj_again (⟨σ2, ⟨la2, lc2, ma2, mc2⟩⟩ : CellS) ⟨hle2, V2.rep⟩ Nat.zero_lt_one rfl (by (repeat (first | exact trivial | refine And.intro rfl ?_))) (by (repeat (first | exact trivial | refine And.intro rfl ?_))) rfl (by (repeat' (first | exact trivial | exact Nat.le_of_ble_eq_true rfl | constructor))) (by (repeat' (first | exact trivial | exact Nat.le_of_ble_eq_true rfl | exact vCells_lt _ _ _ _ _ _ | refine AllLt.of ?_ | constructor)))
    obtain ⟨σ2, la2, lc2, ma2, mc2⟩ := s
    dsimp only at hle hq2 ⊢
    obtain ⟨la3, lc3, lrows3, ma3, mc3, vrows3, hcc2, V2⟩ := hq2.open
    rw [hcc2]
    have V0 := V.monoC hle.cle
    have S0 := S.mono hle
    (repeat (first | refine cj_seq ?_ | (refine cj_region ?_; refine oj_run TT rfl ?_) | refine oj_then ?_))
    refine cj_if rfl (fun h => absurd h (by decide)) (fun _ => ?_)
    (repeat (first | refine cj_seq ?_ | refine cj_skip ?_ | refine nj_then ?_))
    refine cj_draw [(0,.quiet),(1,.pure),(2,.pure),(3,.quiet),(4,.quiet),(5,.keep),(6,.sink),(7,.pure)] mixed (by kernel_rfl) (oj_run TT rfl ?_)
    refine oj_idx TT rfl rfl rfl rfl rfl rfl rfl rfl rfl S0 (by omega) hrow0 (oj_run TT rfl ?_)
    refine oj_callS rfl rfl rfl rfl rfl Tryd.call110 ⟨vCells_lt _ _ _ _ _ _, (by (repeat' (first | exact trivial | refine AllLt.of ?_ | constructor))), vCells_lt _ _ _ _ _ _, trivial⟩ (hlay σ2 V0 v' la3 lc3 lrows3 ma3 mc3 vrows3 V2) fun v σ3 hle3 ⟨r3, hv, hrep⟩ => ⟨.agg r3, hrep.clo, hv.symm, ?_⟩
    obtain ⟨la4, lc4, lrows4, ma4, mc4, vrows4, rfl, V4⟩ := hrep.open
    refine oj_run TT rfl ?_
    (repeat (first | refine oj_then ?_ | refine cj_ret ?_))
    refine nj_ret TT rfl fun β w' _ _ => ?_
    exact ⟨_, rfl, V4.rep⟩

/-! ### Put -/

theorem Swap.unsnoc {g g' : GVal} {P : List GStep} {h h' : GVal} (hs : Swap g g' P h h') : P ≠ [] → ∃ P' hp m y, P = P' ++ [stepOf m y] ∧ (its hp)[m]? = some y ∧ y.v = h ∧ Swap g g' P' hp (setIt hp m h') := by
  induction hs with
  | refl => exact fun h => absurd rfl h
  | @step g v' m x P h h' hx hs ih =>
    intro _
    by_cases hP : P = []
    · subst hP
      generalize hy : x.v = y at hs
      cases hs
      exact ⟨[], g, m, x, rfl, hx, hy, .refl _ _⟩
    · obtain ⟨P', hp, m', y, e1, e2, e3, e4⟩ := ih hP
      exact ⟨stepOf m x :: P', hp, m', y, by rw [e1]; rfl, e2, e3, .step hx e4⟩
theorem Swap.keeps {g g' : GVal} {P : List GStep} {h h' : GVal} (hs : Swap g g' P h h') : g.wf → keysOk g → h.wf ∧ keysOk h ∧ h.weight ≤ g.weight := by
  induction hs with
  | refl => exact fun h1 h2 => ⟨h1, h2, Nat.le_refl _⟩
  | @step g v' m x P h h' hx hs ih =>
    intro hw hk
    have hm := List.mem_of_getElem? hx
    obtain ⟨a1, a2, a3⟩ := ih (its_wf hw hm) (its_keys hw hk hm)
    have := in_weight (its_mem hw hm)
    exact ⟨a1, a2, by omega⟩

set_option maxRecDepth 100000 in
set_option maxHeartbeats 1000000 in
theorem put1_c (σ : Snap) (gx : Nat) (x : GVal) (xla : Option Addr) (xlc : Nat) (xlrows : List (List AT)) (xma : Option Addr) (xmc : Nat) (xvrows : List (List AT)) (X : VAt σ x xla xlc xlrows xma xmc xvrows) (hgx : ∀ (j : Nat) c, (vCells x xla xlc xma xmc)[j]? = some c → σ.cell ⟨gx, j, none⟩ = some c.val)
    (hp : GVal) (hw : hp.weight ≤ 1000000) (hk : keysOk hp) {m : Nat} {y : Itm} (hy : (its hp)[m]? = some y) : DoOk 109 [ptrTo gx] σ hp (setIt hp m x) (stepOf m y) := by
  intro σ' hle la lc lrows ma mc vrows V
  have hlay := lay_c σ' hp la lc lrows ma mc vrows V hw hk hy x xla xlc _ xma xmc _ (X.monoC hle.cle)
  generalize stepOf m y = s at *
  refine enter_s Tryd.func109 rfl rfl ⟨vCells_lt _ _ _ _ _ _, (by (repeat' (first | exact trivial | refine AllLt.of ?_ | constructor))), trivial, trivial, trivial⟩ fun w => ?_
  (repeat (first | refine cj_seq ?_ | (refine cj_region ?_; refine oj_run TT rfl ?_) | refine oj_then ?_ | refine cj_if_t rfl ?_ | refine cj_block ?_))
  refine oj_row 3 (vCells x xla xlc xma xmc) rfl (vCells_lt _ _ _ _ _ _) (fun j c hj => by rw [add0]; exact hle.cell (hgx j c hj)) (oj_run TT rfl ?_)
  refine oj_callS rfl rfl rfl rfl rfl Tryd.call110 ⟨vCells_lt _ _ _ _ _ _, (by (repeat' (first | exact trivial | refine AllLt.of ?_ | constructor))), vCells_lt _ _ _ _ _ _, trivial⟩ hlay fun v σ3 hle3 ⟨r3, hv, hrep⟩ => ⟨.agg r3, hrep.clo, hv.symm, ?_⟩
  obtain ⟨la4, lc4, lrows4, ma4, mc4, vrows4, rfl, V4⟩ := hrep.open
  refine oj_run TT rfl ?_
  (repeat (first | refine oj_then ?_ | refine cj_ret ?_ | refine nj_then_ret ?_ | refine nj_block_ret ?_))
  refine nj_ret TT rfl fun β w' _ _ => ?_
  exact ⟨_, rfl, V4.rep⟩

set_option maxRecDepth 100000 in
set_option maxHeartbeats 1000000 in
theorem Put_c (σ : Snap) (g : GVal) (la : Option Addr) (lc : Nat) (lrows : List (List AT)) (ma : Option Addr) (mc : Nat) (vrows : List (List AT)) (V : VAt σ g la lc lrows ma mc vrows) (hw : g.weight ≤ 1000000) (hk : keysOk g) (hd : kinds g)
    (x : GVal) (xla : Option Addr) (xlc : Nat) (xlrows : List (List AT)) (xma : Option Addr) (xmc : Nat) (xvrows : List (List AT)) (X : VAt σ x xla xlc xlrows xma xmc xvrows) {g' h : GVal} {P : List GStep} (hsw : Swap g g' P h x) (hPl : P.length ≤ 1000000) (so : Option Addr) (sc : Nat) (S : SlAt σ so P.length sc 3 (stepRows P)) :
    PureS Tryd.prog 65 [.agg (vCells g la lc ma mc), .a (.v (.slice so P.length sc)), .agg (vCells x xla xlc xma xmc)] σ (fun v σ' => ∃ r, v = (SV.tup [.agg r, .a (.v (.int .i64 0))]).den β0 ∧ RepV σ' g' r) := by
  refine enter_s Tryd.func65 rfl rfl ⟨vCells_lt _ _ _ _ _ _, trivial, vCells_lt _ _ _ _ _ _, trivial⟩ fun w => ?_
  (repeat (first | refine cj_seq ?_ | (refine cj_region ?_; refine oj_run TT rfl ?_) | refine oj_then ?_))
  refine cj_if rfl (fun h0 => ?_) (fun h0 => ?_)
  · have h0 := of_decide_eq_true (show decide ((P.length : Int) = 0) = true from h0)
    have hP : P = [] := List.eq_nil_of_length_eq_zero (by omega)
    subst hP
    cases hsw
    (repeat (first | refine cj_seq ?_ | (refine cj_region ?_; refine oj_run TT rfl ?_) | refine oj_then ?_ | refine cj_ret ?_ | refine nj_then_ret ?_))
    refine nj_ret TT rfl fun β w' _ _ => ?_
    exact ⟨_, rfl, X.rep⟩
  have h0 := of_decide_eq_false (show decide ((P.length : Int) = 0) = false from h0)
  obtain ⟨P', hp, m, y, e1, e2, e3, e4⟩ := hsw.unsnoc (fun e => h0 (by rw [e]; rfl))
  obtain ⟨k1, k2, k3⟩ := e4.keeps V.rep.wf hk
  refine cj_skip ?_
  refine nj_then ?_
  refine cj_own 1 1 8 rfl (by (repeat' exact vCells_lt _ _ _ _ _ _)) rfl (by decide) fun gx => ?_
  refine cj_seal 0 rfl rfl fun σ1 hle1 hS => ?_
  have hgx : ∀ (j : Nat) c, (vCells x xla xlc xma xmc)[j]? = some c → σ1.cell ⟨gx, j, none⟩ = some c.val := fun j c hj => by
    rcases hS with ⟨h, _⟩ | ⟨g', h1, h2⟩
    · cases h
    · obtain rfl : gx = g' := by simpa using h1
      exact h2 j _ (by show (List.map AT.val (vCells x xla xlc xma xmc))[j]? = _; rw [List.getElem?_map, hj]; rfl)
  have hN : P.length = P'.length + 1 := by rw [e1]; simp
  have hat := vat_c 109 [ptrTo gx] ⟨trivial, trivial⟩ Tryd.call109 P' σ1 g g' hp (setIt hp m x) m y e4 V.rep.wf hk hd hw (by omega) e2 (put1_c σ1 gx x xla xlc xlrows xma xmc xvrows (X.monoC hle1.cle) hgx hp (by omega) k2 e2) la lc lrows ma mc vrows (V.monoC hle1.cle) so P.length sc hN (by rw [← e1]; exact S.mono hle1)
  (repeat (first | refine cj_seq ?_ | (refine cj_region ?_; refine oj_run TT rfl ?_)))
  refine oj_callS rfl rfl rfl rfl rfl Tryd.call108 ⟨vCells_lt _ _ _ _ _ _, trivial, fn_lt1 (.func 109) gx 0, trivial⟩ hat fun v σ3 hle3 ⟨r3, hv, hrep⟩ => ⟨.tup [.agg r3, .a (.v (.int .i64 0))], SV.lt_tup ⟨hrep.clo, trivial, trivial⟩, hv.symm, ?_⟩
  obtain ⟨la4, lc4, lrows4, ma4, mc4, vrows4, rfl, V4⟩ := hrep.open
  refine oj_run TT rfl ?_
  (repeat (first | refine oj_then ?_ | refine cj_ret ?_))
  refine nj_ret TT rfl fun β w' _ _ => ?_
  exact ⟨_, rfl, V4.rep⟩
end Go.Sy
namespace Go.Sy
open Go.Proofs

/-! ### value.Drop -/

theorem RepL.eraseIdx {σ : Snap} : ∀ {gs : List GVal} {rs : List (List AT)} (k : Nat), RepL σ gs rs → RepL σ (gs.eraseIdx k) (rs.eraseIdx k)
  | [], rs, k, h => by
    simp only [RepL] at h
    subst h
    exact rfl
  | g :: gs, rs, 0, h => by
    simp only [RepL] at h
    obtain ⟨r0, rs', rfl, h2, h3⟩ := h
    exact h3
  | g :: gs, rs, k + 1, h => by
    simp only [RepL] at h
    obtain ⟨r0, rs', rfl, h2, h3⟩ := h
    exact ⟨r0, _, rfl, h2, RepL.eraseIdx k h3⟩
theorem keyRows_erase : ∀ (ks : List ByteArray) (rs : List (List AT)) (k : Nat), ks.length = rs.length → keyRows (ks.eraseIdx k) (rs.eraseIdx k) = (keyRows ks rs).eraseIdx k
  | [], [], _, _ => rfl
  | x :: ks, q :: rs, 0, _ => rfl
  | x :: ks, q :: rs, k + 1, h => by
    simp only [List.eraseIdx_cons_succ, keyRows]
    rw [keyRows_erase ks rs k (by simpa using h)]
  | [], _ :: _, _, h => by simp at h
  | _ :: _, [], _, h => by simp at h

set_option maxRecDepth 100000 in
set_option maxHeartbeats 1000000 in
theorem drop1_c (σ : Snap) (hp : GVal) (hw : hp.weight ≤ 1000000) (hk : keysOk hp) {m : Nat} {y : Itm} (hy : (its hp)[m]? = some y) : DoOk 113 [] σ hp (delIt hp m) (stepOf m y) := by
  intro σ' hle la lc lrows ma mc vrows V
  have hil := in_len hp
  have hkv := V.kv
  have hvl := V.vlen
  have hll := V.l.len
  rcases its_split hy with ⟨h1, h2, h3⟩ | ⟨h1, h2, h3, h4⟩
  · have hst : stepOf m y = ⟨y.name, (m : Int), false⟩ := by unfold stepOf; rw [h1]; rfl
    have hdel : delIt hp m = .mk hp.kind hp.b hp.n hp.s (hp.l.eraseIdx m) hp.ks hp.vs := by unfold delIt; rw [if_pos h2]
    rw [hst, hdel]
    have hrall : ∀ r ∈ lrows, r.length = 8 ∧ r.all AT.one = true := fun r hr => ⟨(V.l.rows r hr).1, (V.l.rows r hr).2.2⟩
    refine enter_s Tryd.func113 rfl rfl ⟨vCells_lt _ _ _ _ _ _, (by unfold stepCells; (repeat' (first | exact trivial | refine AllLt.of ?_ | constructor))), trivial, trivial⟩ fun w => ?_
    (repeat (first | refine cj_seq ?_ | (refine cj_region ?_; refine oj_run TT rfl ?_) | refine oj_then ?_ | refine cj_if_f rfl ?_ | refine cj_block ?_))
    refine cj_if rfl (fun h => absurd (show false = true from h) (by decide)) (fun _ => ?_)
    refine cj_drawW [(0,.pure),(1,.quiet),(3,.pure),(4,.quiet),(5,.pure),(6,.quiet),(7,.pure),(2,.keep),(8,.keep),(9,.pure),(10,.sink)] (fun β w => ∃ σ'' A'', StW _ σ'' _ A'' β w) (fun β w h => ⟨_, _, h⟩) mixed (by kernel_rfl) ?_
    refine ow_pure TT rfl rfl rfl rfl rfl rfl ?_
    refine ow_loadE TT _ (fun _ _ h => h) (fun _ _ h => h) rfl rfl rfl rfl rfl ?_
    refine ow_pure TT rfl rfl rfl rfl rfl rfl ?_
    refine ow_loadE TT _ (fun _ _ h => h) (fun _ _ h => h) rfl rfl rfl rfl rfl ?_
    refine ow_pure TT rfl rfl rfl rfl rfl rfl ?_
    refine ow_loadE TT _ (fun _ _ h => h) (fun _ _ h => h) rfl rfl rfl rfl rfl ?_
    refine ow_add rfl rfl rfl rfl rfl rfl rfl (by show -9223372036854775808 ≤ (m : Int) + 1 ∧ (m : Int) + 1 ≤ 9223372036854775807; omega) ?_
    refine ow_call [] (A0 := []) (Ar := []) rfl rfl rfl rfl rfl rfl rfl Tryd.call112 (by (repeat' (first | exact trivial | constructor))) (cloneV_c σ' la hp.l.length lc lrows V.L (by omega) fun r hr => (V.l.rows r hr).2.2) fun v σ1 A1 hle1 ⟨bo, bc, hv, hbc, hA⟩ => ⟨fun _ _ h => ⟨_, _, h⟩, .a (.v (.slice bo hp.l.length bc)), trivial, hv.symm, ?_⟩
    subst hA
    have hdl := DeleteVal_c σ1 lrows hrall (by omega) bo bc (by omega) m (m + 1) (by omega) (by omega)
    rw [hll] at hdl
    refine ow_call [0] (A0 := [⟨bo, hp.l.length, bc, 27, 8, lrows.flatten.map AT.val⟩]) (Ar := []) rfl rfl rfl rfl rfl rfl rfl Tryd.call116 (by (repeat' (first | exact trivial | constructor))) hdl fun v σ2 A2 hle2 ⟨hv, hA⟩ => ⟨fun _ _ h => ⟨_, _, h⟩, .a (.v (.slice bo (m + (hp.l.length - (m + 1))) bc)), trivial, hv.symm, ?_⟩
    subst hA
    refine ow_pure TT rfl rfl rfl rfl rfl rfl ?_
    refine ow_end rfl (fun _ _ h => ⟨_, _, h⟩) ?_
    refine oj_run TT rfl ?_
    (repeat (first | refine cj_seq ?_ | (refine cj_region ?_; refine oj_run TT rfl ?_) | refine oj_then ?_ | refine oj_nil ?_ | refine cj_ret ?_ | refine nj_then ?_ | refine nj_block ?_))
    refine nj_seal 0 rfl rfl fun σ3 hle3 hS => ?_
    refine nj_ret TT rfl fun β w' _ _ => ?_
    have hle4 := Snap.le_trans (Snap.le_trans hle1 hle2) hle3
    have hrr : lrows.take m ++ lrows.drop (m + 1) = lrows.eraseIdx m := (List.eraseIdx_eq_take_drop_succ ..).symm
    have hR2 : RepL σ3 (hp.l.eraseIdx m) (lrows.eraseIdx m) := (RepL.eraseIdx m V.l).mono hle4
    have hel : (hp.l.eraseIdx m).length = m + (hp.l.length - (m + 1)) := by rw [List.length_eraseIdx, if_pos h2]; omega
    have hS1 : SlAt σ3 bo (m + (hp.l.length - (m + 1))) bc 8 (lrows.eraseIdx m) := hS.sl (by rw [← hrr]) (fun r hr => ⟨(hR2.rows r hr).1, (hR2.rows r hr).2.1⟩) (by rw [List.length_eraseIdx, if_pos (by omega)]; omega) rfl (show m + (hp.l.length - (m + 1)) ≤ bc by omega)
    refine ⟨[.v (.int .i64 hp.kind), .b hp.b, .b hp.n.neg, .v (.string hp.n.dg), .v (.int .i64 hp.n.ex), .v (.string hp.s), .v (.slice bo (m + (hp.l.length - (m + 1))) bc), .v (.slice ma hp.ks.length mc)], rfl, ?_⟩
    simp only [RepV]
    rw [hel]
    exact ⟨bo, bc, _, ma, mc, vrows, rfl, hS1, hR2, hkv, V.M.mono hle4, V.v.mono hle4, V.dg, V.s, by simp only [mostLen]; omega, V.kl, V.kk⟩
  · have hst : stepOf m y = ⟨y.name, 0, true⟩ := by unfold stepOf; rw [h1]; rfl
    have hdel : delIt hp m = .mk hp.kind hp.b hp.n hp.s hp.l (hp.ks.eraseIdx (m - hp.l.length)) (hp.vs.eraseIdx (m - hp.l.length)) := by unfold delIt; rw [if_neg (by omega)]
    rw [hst, hdel]
    have hpl := placeM_at h3 ((keysOk_eq hp).1 hk).1
    generalize m - hp.l.length = q at *
    have hql := (List.getElem?_eq_some_iff.1 h3).1
    have hkall := keyRows_all V.v hkv
    have hkl := keyRows_len (ks := hp.ks) (rs := vrows) (by omega)
    refine enter_s Tryd.func113 rfl rfl ⟨vCells_lt _ _ _ _ _ _, (by unfold stepCells; (repeat' (first | exact trivial | refine AllLt.of ?_ | constructor))), trivial, trivial⟩ fun w => ?_
    (repeat (first | refine cj_seq ?_ | (refine cj_region ?_; refine oj_run TT rfl ?_) | refine oj_then ?_ | refine cj_if_f rfl ?_ | refine cj_block ?_))
    refine cj_if rfl (fun _ => ?_) (fun h => absurd (show true = false from h) (by decide))
    (repeat (first | refine cj_seq ?_ | (refine cj_region ?_; refine oj_run TT rfl ?_)))
    refine oj_callP rfl rfl rfl rfl rfl Tryd.call114 (by (repeat' (first | exact trivial | constructor))) (placeM_c σ' hp.ks hp.vs vrows hkv V.v (by omega) ma mc V.M y.name) fun v hv => ⟨.a (.v (.int .i64 q)), trivial, (by rw [hv, hpl]; rfl), ?_⟩
    refine oj_run TT rfl ?_
    (repeat (first | (refine cj_region ?_; refine oj_run TT rfl ?_) | refine oj_then ?_))
    refine oj_callF [] (A0 := []) (Ar := []) rfl rfl rfl rfl rfl rfl rfl Tryd.call111 (by (repeat' (first | exact trivial | constructor))) (cloneM_c σ' ma hp.ks.length mc (keyRows hp.ks vrows) V.M (by omega) fun r hr => (hkall r hr).2.2) fun v σ1 A1 hle1 ⟨bo, bc, hv, hbc, hA⟩ => ⟨.a (.v (.slice bo hp.ks.length bc)), trivial, hv.symm, ?_⟩
    subst hA
    refine oj_run TT rfl ?_
    have hdl := DeleteMem_c σ1 (keyRows hp.ks vrows) (fun r hr => ⟨(hkall r hr).1, (hkall r hr).2.2⟩) (by omega) bo bc (by omega) q (q + 1) (by omega) (by omega)
    rw [hkl] at hdl
    refine oj_add rfl rfl rfl rfl rfl rfl (by omega) (oj_run TT rfl ?_)
    refine oj_callF [0] (A0 := [⟨bo, hp.ks.length, bc, 125, 9, (keyRows hp.ks vrows).flatten.map AT.val⟩]) (Ar := []) rfl rfl rfl rfl rfl rfl rfl Tryd.call115 (by (repeat' (first | exact trivial | constructor))) hdl fun v σ2 A2 hle2 ⟨hv, hA⟩ => ⟨.a (.v (.slice bo (q + (hp.ks.length - (q + 1))) bc)), trivial, hv.symm, ?_⟩
    subst hA
    refine oj_run TT rfl ?_
    (repeat (first | refine cj_seq ?_ | (refine cj_region ?_; refine oj_run TT rfl ?_) | refine oj_then ?_ | refine oj_nil ?_ | refine cj_ret ?_ | refine nj_then ?_ | refine nj_block ?_))
    refine nj_seal 0 rfl rfl fun σ3 hle3 hS => ?_
    refine nj_ret TT rfl fun β w' _ _ => ?_
    have hle4 := Snap.le_trans (Snap.le_trans hle1 hle2) hle3
    have hrr : (keyRows hp.ks vrows).take q ++ (keyRows hp.ks vrows).drop (q + 1) = keyRows (hp.ks.eraseIdx q) (vrows.eraseIdx q) := by rw [keyRows_erase _ _ _ (by omega)]; exact (List.eraseIdx_eq_take_drop_succ ..).symm
    have hR2 : RepL σ3 (hp.vs.eraseIdx q) (vrows.eraseIdx q) := (RepL.eraseIdx q V.v).mono hle4
    have hek : (hp.ks.eraseIdx q).length = q + (hp.ks.length - (q + 1)) := by rw [List.length_eraseIdx, if_pos hql]; omega
    have hev : (hp.vs.eraseIdx q).length = q + (hp.ks.length - (q + 1)) := by rw [List.length_eraseIdx, if_pos (by omega)]; omega
    have hka2 := keyRows_all hR2 (ks := hp.ks.eraseIdx q) (by rw [hek, hev])
    have hS1 : SlAt σ3 bo (q + (hp.ks.length - (q + 1))) bc 9 (keyRows (hp.ks.eraseIdx q) (vrows.eraseIdx q)) := hS.sl (by rw [← hrr]) (fun r hr => ⟨(hka2 r hr).1, (hka2 r hr).2.1⟩) (by rw [keyRows_len (by rw [hek, List.length_eraseIdx, if_pos (by omega)]; omega), hek]) rfl (show q + (hp.ks.length - (q + 1)) ≤ bc by omega)
    refine ⟨[.v (.int .i64 hp.kind), .b hp.b, .b hp.n.neg, .v (.string hp.n.dg), .v (.int .i64 hp.n.ex), .v (.string hp.s), .v (.slice la hp.l.length lc), .v (.slice bo (q + (hp.ks.length - (q + 1))) bc)], rfl, ?_⟩
    simp only [RepV]
    rw [hek]
    exact ⟨la, lc, lrows, bo, bc, _, rfl, V.L.mono hle4, V.l.mono hle4, hev.symm, hS1, hR2, V.dg, V.s, V.ll, by simp only [mostLen]; omega, fun k hk => V.kk k (List.mem_of_mem_eraseIdx hk)⟩

set_option maxRecDepth 100000 in
set_option maxHeartbeats 1000000 in
theorem Drop_c (σ : Snap) (g : GVal) (la : Option Addr) (lc : Nat) (lrows : List (List AT)) (ma : Option Addr) (mc : Nat) (vrows : List (List AT)) (V : VAt σ g la lc lrows ma mc vrows) (hw : g.weight ≤ 1000000) (hk : keysOk g) (hd : kinds g)
    {g' hp : GVal} {P' P : List GStep} {m : Nat} {y : Itm} (hP : P = P' ++ [stepOf m y]) (hy : (its hp)[m]? = some y) (hsw : Swap g g' P' hp (delIt hp m)) (hPl : P.length ≤ 1000000) (so : Option Addr) (sc : Nat) (S : SlAt σ so P.length sc 3 (stepRows P)) :
    PureS Tryd.prog 67 [.agg (vCells g la lc ma mc), .a (.v (.slice so P.length sc))] σ (fun v σ' => ∃ r, v = (SV.tup [.agg r, .a (.v (.int .i64 0))]).den β0 ∧ RepV σ' g' r) := by
  have hN : P.length = P'.length + 1 := by rw [hP]; simp
  obtain ⟨k1, k2, k3⟩ := hsw.keeps V.rep.wf hk
  have hat := vat_c 113 [] trivial Tryd.call113 P' σ g g' hp (delIt hp m) m y hsw V.rep.wf hk hd hw (by omega) hy (drop1_c σ hp (by omega) k2 hy) la lc lrows ma mc vrows V so P.length sc hN (by rw [← hP]; exact S)
  refine enter_s Tryd.func67 rfl rfl ⟨vCells_lt _ _ _ _ _ _, trivial, trivial⟩ fun w => ?_
  (repeat (first | refine cj_seq ?_ | (refine cj_region ?_; refine oj_run TT rfl ?_) | refine oj_then ?_))
  refine cj_if rfl (fun h0 => ?_) (fun _ => ?_)
  · have h0 := of_decide_eq_true (show decide ((P.length : Int) = 0) = true from h0)
    omega
  (repeat (first | refine cj_seq ?_ | (refine cj_region ?_; refine oj_run TT rfl ?_) | refine cj_skip ?_ | refine nj_then ?_))
  refine oj_callS rfl rfl rfl rfl rfl Tryd.call108 ⟨vCells_lt _ _ _ _ _ _, trivial, SV.lt_fn0, trivial⟩ hat fun v σ3 hle3 ⟨r3, hv, hrep⟩ => ⟨.tup [.agg r3, .a (.v (.int .i64 0))], SV.lt_tup ⟨hrep.clo, trivial, trivial⟩, hv.symm, ?_⟩
  obtain ⟨la4, lc4, lrows4, ma4, mc4, vrows4, rfl, V4⟩ := hrep.open
  refine oj_run TT rfl ?_
  (repeat (first | refine oj_then ?_ | refine cj_ret ?_))
  refine nj_ret TT rfl fun β w' _ _ => ?_
  exact ⟨_, rfl, V4.rep⟩
end Go.Sy
namespace Go.Sy
open Go.Proofs

/-! ### Records compared -/

theorem und36 : Tryd.prog.underlying 36 = some (.struct (Tryd.prog.fieldsOf 36)) := by kernel_rfl
theorem run_partA {P : Program} {w : World} {t : TypeId} {xs : Array Value} {o n : Nat} {d : TypeDesc} (hu : P.underlying t = some d) (hd : aggD d = true) (hn : P.cellsOf t = n) : (part t xs o).run P w = .ok (.agg (xs.extract o (o + n))) w := by
  simp only [part, Sem.run_bind, run_isAgg hu, hd, Result.andThen_ok, if_true, run_sizeB hn hu, Sem.run_pure]

def recVals (r : GRec) : Array Value := #[.int .i64 r.st, .int .i64 r.en, .int .i64 r.lv, .int .i64 r.kd, .bool r.nm, .string r.name, .bool r.b, .bool r.n.neg, .string r.n.dg, .int .i64 r.n.ex, .string r.s]

theorem eqRec_ok (m : Nat) (a b : GRec) (w : World) : (Op.equalIn (m + 1 + 1 + 1) 36 (.agg (recVals a)) (.agg (recVals b))).run Tryd.prog w = .ok (decide (a = b)) w := by
  rw [run_equalIn_agg w (m + 1 + 1) 36 _ _ und36 (by kernel_rfl)]
  have h : fieldsAre (Tryd.prog.fieldsOf 36).toList [(3, 0), (3, 1), (3, 2), (3, 3), (4, 4), (9, 5), (4, 6), (23, 7), (9, 10)] = true := by kernel_rfl
  generalize (Tryd.prog.fieldsOf 36).toList = fl at h
  obtain ⟨f0, fl, rfl, n0, t0, o0, h⟩ := fieldsAre_cons h
  obtain ⟨f1, fl, rfl, n1, t1, o1, h⟩ := fieldsAre_cons h
  obtain ⟨f2, fl, rfl, n2, t2, o2, h⟩ := fieldsAre_cons h
  obtain ⟨f3, fl, rfl, n3, t3, o3, h⟩ := fieldsAre_cons h
  obtain ⟨f4, fl, rfl, n4, t4, o4, h⟩ := fieldsAre_cons h
  obtain ⟨f5, fl, rfl, n5, t5, o5, h⟩ := fieldsAre_cons h
  obtain ⟨f6, fl, rfl, n6, t6, o6, h⟩ := fieldsAre_cons h
  obtain ⟨f7, fl, rfl, n7, t7, o7, h⟩ := fieldsAre_cons h
  obtain ⟨f8, fl, rfl, n8, t8, o8, h⟩ := fieldsAre_cons h
  cases fl with
  | cons _ _ => cases h
  | nil =>
    have ii : ∀ (f : Field) (o : Nat) (r : GRec) (x : Int), f.type = 3 → f.offset = o → (recVals r)[o]? = some (.int .i64 x) → (part f.type (recVals r) f.offset).run Tryd.prog w = .ok (.int .i64 x) w := fun f o r x ht ho hx => run_part1 (by rw [ht]; exact und3) rfl (by rw [ho]; exact hx)
    have bb : ∀ (f : Field) (o : Nat) (r : GRec) (x : Bool), f.type = 4 → f.offset = o → (recVals r)[o]? = some (.bool x) → (part f.type (recVals r) f.offset).run Tryd.prog w = .ok (.bool x) w := fun f o r x ht ho hx => run_part1 (by rw [ht]; exact und4) rfl (by rw [ho]; exact hx)
    have ss : ∀ (f : Field) (o : Nat) (r : GRec) (x : ByteArray), f.type = 9 → f.offset = o → (recVals r)[o]? = some (.string x) → (part f.type (recVals r) f.offset).run Tryd.prog w = .ok (.string x) w := fun f o r x ht ho hx => run_part1 (by rw [ht]; exact und9) rfl (by rw [ho]; exact hx)
    have dd : ∀ (r : GRec), (part f7.type (recVals r) f7.offset).run Tryd.prog w = .ok (.agg #[.bool r.n.neg, .string r.n.dg, .int .i64 r.n.ex]) w := fun r => by
      rw [run_partA (n := 3) (by rw [t7]; exact und23) rfl (by rw [t7]; kernel_rfl), o7]
      rfl
    rw [eqFields_cons (r := a.st == b.st) n0 (ii f0 0 a _ t0 o0 rfl) (ii f0 0 b _ t0 o0 rfl) (run_equalIn_int w (m + 1) f0.type .i64 .i64 a.st b.st (by rw [t0]; exact und3))]
    rw [eqFields_cons (r := a.en == b.en) n1 (ii f1 1 a _ t1 o1 rfl) (ii f1 1 b _ t1 o1 rfl) (run_equalIn_int w (m + 1) f1.type .i64 .i64 a.en b.en (by rw [t1]; exact und3))]
    rw [eqFields_cons (r := a.lv == b.lv) n2 (ii f2 2 a _ t2 o2 rfl) (ii f2 2 b _ t2 o2 rfl) (run_equalIn_int w (m + 1) f2.type .i64 .i64 a.lv b.lv (by rw [t2]; exact und3))]
    rw [eqFields_cons (r := a.kd == b.kd) n3 (ii f3 3 a _ t3 o3 rfl) (ii f3 3 b _ t3 o3 rfl) (run_equalIn_int w (m + 1) f3.type .i64 .i64 a.kd b.kd (by rw [t3]; exact und3))]
    rw [eqFields_cons (r := a.nm == b.nm) n4 (bb f4 4 a _ t4 o4 rfl) (bb f4 4 b _ t4 o4 rfl) (run_equalIn_bool' w (m + 1) f4.type a.nm b.nm (by rw [t4]; exact und4))]
    rw [eqFields_cons (r := decide (a.name = b.name)) n5 (ss f5 5 a _ t5 o5 rfl) (ss f5 5 b _ t5 o5 rfl) (run_eqStr (m + 1) f5.type a.name b.name (by rw [t5]; exact und9))]
    rw [eqFields_cons (r := a.b == b.b) n6 (bb f6 6 a _ t6 o6 rfl) (bb f6 6 b _ t6 o6 rfl) (run_equalIn_bool' w (m + 1) f6.type a.b b.b (by rw [t6]; exact und4))]
    rw [eqFields_cons (r := decide (a.n = b.n)) n7 (dd a) (dd b) (by rw [t7]; exact eqDec_ok m a.n b.n w)]
    rw [eqFields_cons (r := decide (a.s = b.s)) n8 (ss f8 10 a _ t8 o8 rfl) (ss f8 10 b _ t8 o8 rfl) (run_eqStr (m + 1) f8.type a.s b.s (by rw [t8]; exact und9))]
    simp only [Op.eqFields, Sem.run_pure]
    have : (decide (a = b)) = (a.st == b.st && (a.en == b.en && (a.lv == b.lv && (a.kd == b.kd && (a.nm == b.nm && (decide (a.name = b.name) && (a.b == b.b && (decide (a.n = b.n) && decide (a.s = b.s))))))))) := by
      rw [Bool.eq_iff_iff]
      cases a; cases b
      simp
    rw [this]
    cases (a.st == b.st) <;> cases (a.en == b.en) <;> cases (a.lv == b.lv) <;> cases (a.kd == b.kd) <;> cases (a.nm == b.nm) <;> cases decide (a.name = b.name) <;> cases (a.b == b.b) <;> cases decide (a.n = b.n) <;> cases decide (a.s = b.s) <;> rfl

section
variable {cf : Cf} {Q : Exit → Act → World → Prop} {σ : Snap} {env : Env} {hp : HP} {A : List AE} {nh : Nat} {it : Item} {rest : List Item}
/-- Two records compared. -/
theorem oj_eqRec {d : Nat} {x y : Operand} {yt : TypeId} (a b : GRec) (hP : cf.P = Tryd.prog)
    (hop : it.o.op = .binOp .eql 36 x y yt) (hd : it.o.dst = some d) (hg : guardVal it.guard env = some true) (hN : Nat.blt d cf.N = true) (hx : evalO env x = some (.agg (recCells a))) (hy : evalO env y = some (.agg (recCells b)))
    (hk : OJ cf rest Q σ ((d, .a (.b (decide (a = b)))) :: env) hp A nh) : OJ cf (it :: rest) Q σ env hp A nh := by
  refine oj_val (.a (.b (decide (a = b)))) hd hg hN trivial (fun _ ac β ha w => ?_) hk
  have h1 : ac.eval x = .agg (recVals a) := evalO_eval ha hx
  have h2 : ac.eval y = .agg (recVals b) := evalO_eval ha hy
  rw [hP]
  have hG : (eqGuard .eql 36 x y (.agg (recVals a)) (.agg (recVals b))).run Tryd.prog w = .ok () w := run_eqGuard_agg w _ _ _ _ _ _ (by kernel_rfl)
  have hE : (Op.equalIn 10000 36 (.agg (recVals a)) (.agg (recVals b))).run Tryd.prog w = .ok (decide (a = b)) w := eqRec_ok 9997 a b w
  have hB : (binOp .eql 36 (.agg (recVals a)) (.agg (recVals b))).run Tryd.prog w = .ok (.bool (decide (a = b))) w := by
    rw [run_eql_struct, hE]
    rfl
  simp only [execOp, hop, h1, h2, Sem.run_bind, hG, hB, Result.andThen_ok, Sem.run_pure]
  rfl
theorem oj_neRec {d : Nat} {x y : Operand} {yt : TypeId} (a b : GRec) (hP : cf.P = Tryd.prog)
    (hop : it.o.op = .binOp .neq 36 x y yt) (hd : it.o.dst = some d) (hg : guardVal it.guard env = some true) (hN : Nat.blt d cf.N = true) (hx : evalO env x = some (.agg (recCells a))) (hy : evalO env y = some (.agg (recCells b)))
    (hk : OJ cf rest Q σ ((d, .a (.b (!decide (a = b)))) :: env) hp A nh) : OJ cf (it :: rest) Q σ env hp A nh := by
  refine oj_val (.a (.b (!decide (a = b)))) hd hg hN trivial (fun _ ac β ha w => ?_) hk
  have h1 : ac.eval x = .agg (recVals a) := evalO_eval ha hx
  have h2 : ac.eval y = .agg (recVals b) := evalO_eval ha hy
  rw [hP]
  have hG : (eqGuard .neq 36 x y (.agg (recVals a)) (.agg (recVals b))).run Tryd.prog w = .ok () w := run_eqGuard_agg w _ _ _ _ _ _ (by kernel_rfl)
  have hE : (Op.equalIn 10000 36 (.agg (recVals a)) (.agg (recVals b))).run Tryd.prog w = .ok (decide (a = b)) w := eqRec_ok 9997 a b w
  have hB : (binOp .neq 36 (.agg (recVals a)) (.agg (recVals b))).run Tryd.prog w = .ok (.bool (!decide (a = b))) w := by
    rw [run_neq_struct, hE]
    rfl
  simp only [execOp, hop, h1, h2, Sem.run_bind, hG, hB, Result.andThen_ok, Sem.run_pure]
  rfl
end
end Go.Sy
namespace Go.Sy
open Go.Proofs

/-! ### EditsBack -/

def freshS : ByteArray := ⟨#[102, 114, 101, 115, 104]⟩

set_option maxRecDepth 100000 in
set_option maxHeartbeats 1000000 in
theorem EditsBack_c (σ : Snap) (g : GVal) (r : List AT) (x : GVal) (xr : List AT) (i k : Int) (hr : RepV σ g r) (hxr : RepV σ x xr) :
    PlainS Tryd.prog 14 [.agg r, .a (.v (.int .i64 i)), .a (.v (.int .i64 k)), .agg xr] σ (fun v => v = .bool true) := by
  obtain ⟨la, lc, lrows, ma, mc, vrows, rfl, V⟩ := hr.open
  obtain ⟨yla, ylc, ylrows, yma, ymc, yvrows, rfl, Y⟩ := hxr.open
  refine enter_p Tryd.func14 rfl rfl (by (repeat' (first | exact trivial | exact vCells_lt _ _ _ _ _ _ | constructor))) fun w => ?_
  (repeat (first | refine cj_seq ?_ | (refine cj_region ?_; refine oj_run TT rfl ?_) | refine oj_then ?_))
  refine oj_callS rfl rfl rfl rfl rfl Tryd.call60 (by (repeat' exact trivial)) (awake12_c σ) fun v σ0 hle0 hv => ⟨.a .tt, trivial, hv.symm, ?_⟩
  have V := V.monoC hle0.cle
  have Y := Y.monoC hle0.cle
  refine oj_run TT rfl ?_
  (repeat (first | refine cj_seq ?_ | (refine cj_region ?_; refine oj_run TT rfl ?_) | refine oj_then ?_))
  refine oj_callP rfl rfl rfl rfl rfl Tryd.call19 (by (repeat' (first | exact trivial | exact vCells_lt _ _ _ _ _ _ | constructor))) (Few_c σ0 g _ 800 V.rep (by omega) (by omega)) fun v ⟨fb, hv, hfew⟩ => ⟨.a (.b fb), trivial, hv.symm, ?_⟩
  refine oj_run TT rfl ?_
  skip
  refine oj_split 25 rfl (fun h => ?_) (fun h => ?_)
  · refine oj_run TT rfl ?_
    (repeat (first | refine cj_seq ?_ | (refine cj_region ?_; refine oj_run TT rfl ?_) | refine oj_then ?_ | refine cj_if_t rfl ?_ | refine cj_ret ?_ | refine nj_then_ret ?_))
    refine nj_ret TT rfl fun β w' _ _ => ?_
    rfl
  have hw : g.weight ≤ 800 := by
    have := hfew (by simpa using h)
    omega
  refine oj_run TT rfl ?_
  refine oj_callP rfl rfl rfl rfl rfl Tryd.call19 (by (repeat' (first | exact trivial | exact vCells_lt _ _ _ _ _ _ | constructor))) (Few_c σ0 x _ 300 Y.rep (by omega) (by omega)) fun v ⟨fb2, hv, hfew2⟩ => ⟨.a (.b fb2), trivial, hv.symm, ?_⟩
  refine oj_run TT rfl ?_
  (repeat refine oj_then ?_)
  refine cj_if rfl (fun h => ?_) (fun h => ?_)
  · (repeat (first | refine cj_seq ?_ | (refine cj_region ?_; refine oj_run TT rfl ?_) | refine oj_then ?_ | refine cj_ret ?_ | refine nj_then_ret ?_))
    refine nj_ret TT rfl fun β w' _ _ => ?_
    rfl
  have hwx : x.weight ≤ 300 := by
    have := hfew2 (by simpa using h)
    omega
  (repeat (first | refine cj_seq ?_ | (refine cj_region ?_; refine oj_run TT rfl ?_) | refine cj_skip ?_ | refine nj_then ?_))
  refine oj_callS rfl rfl rfl rfl rfl Tryd.call21 ⟨vCells_lt _ _ _ _ _ _, trivial, trivial⟩ (Shred_s σ0 g _ 1000 V.rep (by omega)) fun v σ1 hle1 ⟨ao, cap, hv, H⟩ => ⟨.tup [.a (.v (.slice ao (shredG g 1000).1.length cap)), .a (.v (.int .i64 (shredG g 1000).2))], (by (repeat' (first | exact trivial | refine SV.lt_tup ?_ | constructor))), hv.symm, ?_⟩
  rw [shredG_k (by omega) (by omega)] at H ⊢
  by_cases hs : sane g ≠ 0
  · rw [if_pos hs] at H ⊢
    dsimp only at H ⊢
    refine oj_run TT rfl ?_
    (repeat (first | refine cj_seq ?_ | (refine cj_region ?_; refine oj_run TT rfl ?_) | refine oj_then ?_))
    refine oj_split 38 rfl (fun h => ?_) (fun h => absurd (by simpa using h) hs)
    refine oj_run TT rfl ?_
    (repeat (first | refine cj_seq ?_ | (refine cj_region ?_; refine oj_run TT rfl ?_) | refine oj_then ?_ | refine cj_if_t rfl ?_ | refine cj_ret ?_ | refine nj_then_ret ?_))
    refine nj_ret TT rfl fun β w' _ _ => ?_
    rfl
  have hs : sane g = 0 := by simpa using hs
  rw [if_neg (by simp [hs])] at H ⊢
  dsimp only at H ⊢
  have V := V.monoC hle1.cle
  have Y := Y.monoC hle1.cle
  generalize hLdef : (shredV 1000 g 0 false emptyS 0).1 = L at *
  obtain ⟨hcnt, hlen1, hpos, hsound, R, hbL⟩ := shred_facts V.rep (by omega) (by omega) (by omega) hs hLdef.symm
  have S := shred_snd V.rep (by omega) (by omega) (by omega) hs hLdef.symm
  refine oj_run TT rfl ?_
  (repeat (first | refine cj_seq ?_ | (refine cj_region ?_; refine oj_run TT rfl ?_) | refine oj_then ?_))
  refine oj_split 38 rfl (fun h => absurd h (by decide)) (fun h => ?_)
  refine oj_run TT rfl ?_
  (repeat refine oj_then ?_)
  refine cj_if rfl (fun h => ?_) (fun h => ?_)
  · have := of_decide_eq_true h
    omega
  (repeat (first | refine cj_seq ?_ | (refine cj_region ?_; refine oj_run TT rfl ?_) | refine cj_skip ?_ | refine nj_then ?_ | (refine oj_band rfl rfl rfl rfl rfl rfl ?_; refine oj_run TT rfl ?_)))
  have hmi := bAnd_le i 65535 (by omega) (by omega)
  generalize bAnd .i64 i 65535 = m1 at hmi ⊢
  refine oj_rem rfl rfl rfl rfl rfl rfl (by omega) ?_
  obtain ⟨a, ha⟩ : ∃ a : Nat, m1.tmod L.length = a := ⟨(m1.tmod L.length).toNat, by
    have := Int.tmod_nonneg (L.length : Int) hmi.1
    omega⟩
  have hal : a < L.length := by
    have := Int.tmod_lt_of_pos m1 (show (0 : Int) < L.length by omega)
    omega
  rw [ha]
  have hkeys := sane_keys g 0 0 hs
  have hkinds := sane_kinds4 g 0 0 hs
  have hwf := V.rep.wf
  obtain ⟨hG, now, hsub, hloc⟩ := shred_loc (gap := 1000) (by omega) (nm := false) (name := emptyS) hwf hkeys (i := a) (by omega)
  rw [hLdef] at hsub hloc
  have hlaw := insert_law hwf hkeys hkinds hs (gap := 1000) (by omega) (by omega) hLdef.symm hsound hal k freshS Y.rep.wf hsub hloc
  have hrw : recsW L ≤ 800 := by
    have := recsW_V 1000 g 0 false emptyS 0
    rw [hLdef] at this
    have e0 : emptyS.size = 0 := rfl
    omega
  have hfs : freshS.size = 5 := rfl
  refine oj_run TT rfl ?_
  (repeat (first | refine cj_seq ?_ | (refine cj_region ?_; refine oj_run TT rfl ?_) | refine oj_then ?_))
  have hcallI := Insert_c σ1 L S ao cap H a k freshS (by decide) x _ Y.rep (by omega)
  generalize insertG L a k freshS x = Res at hcallI hlaw
  obtain ⟨ml, rlaid, rmv, re⟩ := Res
  refine oj_callS rfl rfl rfl rfl rfl Tryd.call62 ⟨trivial, trivial, trivial, trivial, vCells_lt _ _ _ _ _ _, trivial⟩ hcallI fun v σ2 hle2 ⟨bo, bc, hv, HM⟩ => ⟨.tup [.a (.v (.slice bo ml.length bc)), .agg [.v (.int .i64 rlaid), .v (.int .i64 rmv)], .a (.v (.int .i64 re))], (by (repeat' (first | exact trivial | refine AllLt.of ?_ | refine SV.lt_tup ?_ | constructor))), hv.symm, ?_⟩
  have HM : SlAt σ2 bo ml.length bc 11 (recRows ml) := HM
  have H := H.mono hle2
  have V := V.monoC hle2.cle
  have Y := Y.monoC hle2.cle
  refine oj_run TT rfl ?_
  (repeat (first | refine cj_seq ?_ | (refine cj_region ?_; refine oj_run TT rfl ?_) | refine oj_then ?_))
  refine oj_split 60 rfl (fun h => ?_) (fun h => ?_)
  · refine oj_run TT rfl ?_
    (repeat (first | refine cj_seq ?_ | (refine cj_region ?_; refine oj_run TT rfl ?_) | refine oj_then ?_ | refine cj_if_t rfl ?_ | refine cj_ret ?_ | refine nj_then_ret ?_))
    refine nj_ret TT rfl fun β w' _ _ => ?_
    rfl
  have he : re = 0 := by simpa using h
  refine oj_run TT rfl ?_
  (repeat refine oj_then ?_)
  refine cj_if rfl (fun h => ?_) (fun h => ?_)
  · (repeat (first | refine cj_seq ?_ | (refine cj_region ?_; refine oj_run TT rfl ?_) | refine oj_then ?_ | refine cj_ret ?_ | refine nj_then_ret ?_))
    refine nj_ret TT rfl fun β w' _ _ => ?_
    rfl
  have hmv := of_decide_eq_false h
  obtain ⟨g', kk, O⟩ := hlaw.2 he
  have hres := O.res
  dsimp only at hres
  obtain ⟨-, hc2, -⟩ | ⟨hroom, hmv0, hlayR, at_, M, hat1, hat2, hMl, hRl, hlastR⟩ := hres
  · omega
  have hO1 := O.swap.weight
  have hO2 := insIt_weight hG x kk freshS
  have hg'c := (sane_iff.1 O.sane).2
  have hRlen := hlayR.len O.wf
  have hwV := wVg hwf 1000
  have SR := lay_snd hlayR (by omega) O.wf (by omega) (by omega) (by omega)
  have hsR := lay_sound hlayR (by omega) O.wf O.sane (by omega) (by omega)
  have hcx := cntV_pos x
  have htl : (L.take at_).length = at_ := List.length_take_of_le hat2
  have hRll : ml.length = L.length + cntV x := by
    rw [hRl, List.length_append, List.length_append, htl, hMl, List.length_drop]
    omega
  have hsrt := hlayR.sorted
  have hlow : ∀ q, q < at_ → ml[q]? = L[q]? := fun q hq => by
    rw [hRl, List.getElem?_append_left (by omega), List.getElem?_take, if_pos hq]
  have hne : ∀ r s, ml[at_]? = some r → L[at_]? = some s → r ≠ s := fun r s h1 h2 e => by
    have h3 : ml[at_ + cntV x]? = some s := by
      rw [hRl, List.getElem?_append_right (by omega), htl, List.getElem?_append_right (by omega), hMl, List.getElem?_drop, show at_ + (at_ + cntV x - at_ - cntV x) = at_ by omega, h2]
    have hl1 := (List.getElem?_eq_some_iff.1 h1).1
    have hl3 := (List.getElem?_eq_some_iff.1 h3).1
    have := List.pairwise_iff_getElem.1 hsrt at_ (at_ + cntV x) hl1 hl3 (by omega)
    rw [(List.getElem?_eq_some_iff.1 h1).2, (List.getElem?_eq_some_iff.1 h3).2, e] at this
    omega
  have hdel : deleteG ml at_ = (L, 0) := by
    unfold deleteG
    rw [if_neg (by rw [sound_place hsR (by omega)]; decide), if_neg (by omega), Int.toNat_natCast, hlastR, show ((at_ : Int) + cntV x - 1 + 1).toNat = at_ + cntV x by omega]
    congr 1
    rw [hRl, List.take_left' htl, ← List.drop_drop, List.drop_left' htl, List.drop_left' hMl, List.take_append_drop]
  have hlaidx := O.laid
  dsimp only at hlaidx
  clear hlaw O hRl hlastR hlayR
  (repeat (first | refine cj_seq ?_ | (refine cj_region ?_; refine oj_run TT rfl ?_) | refine oj_then ?_ | refine cj_skip ?_ | refine cj_block ?_ | refine nj_then ?_ | (refine oj_add rfl rfl rfl rfl rfl rfl (by omega) ?_; refine oj_run TT rfl ?_)))
  refine cj_cutB (α := Unit) (fun _ => σ2) (fun _ => [(2, .a (.v (.int .i64 k))), (7, .a (.p 1 0)), (9, .a .tt), (10, .a (.v (.slice ao L.length cap))), (12, .a (.v (.int .i64 a))), (13, .a (.v (.slice bo ml.length bc))), (14, .a (.p 2 0)), (16, .a (.v (.int .i64 (at_ : Nat))))])
    (fun _ => [(1, .loc 27, vCells x yla ylc yma ymc), (2, .loc 98, [.v (.int .i64 rlaid), .v (.int .i64 rmv)])]) (fun _ => []) 3 (fun _ => True) ?_ (fun _ _ => ?_)
  · refine cj_loop (fun (_ : Nat) => σ2) (fun n => [(2, .a (.v (.int .i64 k))), (7, .a (.p 1 0)), (9, .a .tt), (10, .a (.v (.slice ao L.length cap))), (12, .a (.v (.int .i64 a))), (13, .a (.v (.slice bo ml.length bc))), (14, .a (.p 2 0)), (16, .a (.v (.int .i64 ((a + 1 + n : Nat) : Int)))), (17, .a (.v (.int .i64 (n : Nat))))])
      (fun _ => [(1, .loc 27, vCells x yla ylc yma ymc), (2, .loc 98, [.v (.int .i64 rlaid), .v (.int .i64 rmv)])]) (fun _ => []) 3 (fun n => a + 1 + n ≤ at_) (fun n => at_ - (a + 1 + n)) 0 hat1 rfl (by (repeat (first | exact trivial | refine And.intro rfl ?_))) (by (repeat (first | exact trivial | refine And.intro rfl ?_))) rfl (by (repeat' (first | exact trivial | exact Nat.le_of_ble_eq_true rfl | constructor))) (by (repeat' (first | exact trivial | exact Nat.le_of_ble_eq_true rfl | exact vCells_lt _ _ _ _ _ _ | refine AllLt.of ?_ | constructor))) fun n hn => ?_
    (repeat refine cj_seq ?_)
    refine cj_draw [(0,.pure),(1,.pure),(2,.pure),(3,.pure),(4,.pure),(5,.pure),(6,.pure),(7,.pure),(8,.pure),(9,.pure),(10,.pure),(11,.pure),(12,.pure),(13,.pure),(14,.pure),(15,.pure),(16,.pure),(17,.pure),(18,.pure),(19,.pure),(20,.quiet),(21,.pure),(22,.pure),(23,.pure),(24,.quiet),(25,.pure),(26,.pure)] mixed (by kernel_rfl) (oj_run TT rfl ?_)
    refine oj_split 72 rfl (fun _ => ?_) (fun h => absurd (of_decide_eq_false (show decide ((n : Int) < L.length) = false from h)) (by omega))
    refine oj_run TT rfl ?_
    refine oj_split 78 rfl (fun _ => ?_) (fun h => absurd (of_decide_eq_false (show decide (((a + 1 + n : Nat) : Int) < ml.length) = false from h)) (by omega))
    refine oj_run TT rfl ?_
    refine oj_split 84 rfl (fun h => ?_) (fun h => ?_)
    rotate_left
    · have h := of_decide_eq_false (show decide (((a + 1 + n : Nat) : Int) < L.length) = false from h)
      have hna : a + 1 + n = at_ := by omega
      rw [hna]
      refine oj_run TT rfl ?_
      (repeat (first | refine oj_then ?_ | refine cj_if_f rfl ?_ | refine cj_exit ?_ | refine nj_then_exit ?_ | refine nj_block_out ?_))
      refine nj_again () trivial Nat.zero_lt_one rfl (by (repeat (first | exact trivial | refine And.intro rfl ?_))) (by (repeat (first | exact trivial | refine And.intro rfl ?_))) rfl (by (repeat' (first | exact trivial | exact Nat.le_of_ble_eq_true rfl | constructor))) (by (repeat' (first | exact trivial | exact Nat.le_of_ble_eq_true rfl | exact vCells_lt _ _ _ _ _ _ | refine AllLt.of ?_ | constructor)))
    have h := of_decide_eq_true (show decide (((a + 1 + n : Nat) : Int) < L.length) = true from h)
    have hqL : a + 1 + n < L.length := by omega
    have hqm : a + 1 + n < ml.length := by omega
    have hLq : L[a + 1 + n]? = some L[a + 1 + n] := List.getElem?_eq_getElem hqL
    have hmq : ml[a + 1 + n]? = some ml[a + 1 + n] := List.getElem?_eq_getElem hqm
    have hrL := recRows_get hLq
    have hrm := recRows_get hmq
    have heq : a + 1 + n < at_ → ml[a + 1 + n] = L[a + 1 + n] := fun hq => by
      have := hlow _ hq
      rw [hLq, hmq] at this
      exact Option.some.inj this
    have hnq : a + 1 + n = at_ → ml[a + 1 + n] ≠ L[a + 1 + n] := fun hq => hne _ _ (by rw [← hq]; exact hmq) (by rw [← hq]; exact hLq)
    generalize L[a + 1 + n] = rL at *
    generalize ml[a + 1 + n] = rm at *
    refine oj_run TT rfl ?_
    refine oj_idx TT rfl rfl rfl rfl rfl rfl rfl rfl rfl HM (by omega) hrm (oj_run TT rfl ?_)
    refine oj_idx TT rfl rfl rfl rfl rfl rfl rfl rfl rfl H (by omega) hrL (oj_run TT rfl ?_)
    refine oj_eqRec rm rL rfl rfl rfl rfl rfl rfl rfl (oj_run TT rfl ?_)
    (repeat refine oj_then ?_)
    refine cj_if rfl (fun h => ?_) (fun h => ?_)
    · have h : rm = rL := of_decide_eq_true h
      have hnl : a + 1 + n < at_ := by
        rcases Nat.lt_or_ge (a + 1 + n) at_ with h1 | h1
        · exact h1
        · exact absurd h (hnq (by omega))
      (repeat (first | refine cj_seq ?_ | (refine cj_region ?_; refine oj_run TT rfl ?_) | refine oj_nil ?_ | refine cj_skip ?_ | refine cj_block ?_ | refine nj_then ?_ | refine nj_block ?_ | (refine oj_add rfl rfl rfl rfl rfl rfl (by omega) ?_; refine oj_run TT rfl ?_)))
      refine nj_again (n + 1) (show a + 1 + (n + 1) ≤ at_ by omega) (by omega) rfl (by (repeat (first | exact trivial | refine And.intro rfl ?_))) (by (repeat (first | exact trivial | refine And.intro rfl ?_))) rfl (by (repeat' (first | exact trivial | exact Nat.le_of_ble_eq_true rfl | constructor))) (by (repeat' (first | exact trivial | exact Nat.le_of_ble_eq_true rfl | exact vCells_lt _ _ _ _ _ _ | refine AllLt.of ?_ | constructor)))
    · have h : rm ≠ rL := of_decide_eq_false h
      have hna : a + 1 + n = at_ := by
        rcases Nat.lt_or_ge (a + 1 + n) at_ with h1 | h1
        · exact absurd (heq h1) h
        · omega
      rw [hna]
      (repeat (first | refine cj_exit ?_ | refine nj_then_exit ?_ | refine nj_block_out ?_))
      refine nj_again () trivial Nat.zero_lt_one rfl (by (repeat (first | exact trivial | refine And.intro rfl ?_))) (by (repeat (first | exact trivial | refine And.intro rfl ?_))) rfl (by (repeat' (first | exact trivial | exact Nat.le_of_ble_eq_true rfl | constructor))) (by (repeat' (first | exact trivial | exact Nat.le_of_ble_eq_true rfl | exact vCells_lt _ _ _ _ _ _ | refine AllLt.of ?_ | constructor)))
  have hcd := Delete12_c σ2 ml SR bo bc HM at_
  rw [hdel] at hcd
  dsimp only at hcd
  (repeat (first | refine cj_seq ?_ | (refine cj_region ?_; refine oj_run TT rfl ?_)))
  refine oj_callS rfl rfl rfl rfl rfl Tryd.call64 (by (repeat' (first | exact trivial | constructor))) hcd fun v σ3 hle3 ⟨no, nc, hv, HN⟩ => ⟨.tup [.a (.v (.slice no L.length nc)), .a (.v (.int .i64 0))], (by (repeat' (first | exact trivial | refine SV.lt_tup ?_ | constructor))), hv.symm, ?_⟩
  have H := H.mono hle3
  have Y := Y.monoC hle3.cle
  refine oj_run TT rfl ?_
  (repeat (first | refine cj_seq ?_ | refine oj_then ?_))
  refine cj_draw [(0,.pure),(1,.pure),(2,.pure),(3,.pure),(4,.pure),(5,.pure),(6,.pure),(7,.pure),(8,.pure),(9,.pure),(10,.pure),(11,.quiet),(12,.quiet),(13,.keep),(14,.pure),(15,.pure)] mixed (by kernel_rfl) (oj_run TT rfl ?_)
  refine oj_split 107 rfl (fun h => absurd h (by decide)) (fun _ => ?_)
  refine oj_run TT rfl ?_
  refine oj_split 114 rfl (fun h => absurd (show (!decide ((L.length : Int) = L.length)) = true from h) (by simp)) (fun _ => ?_)
  refine oj_run TT rfl ?_
  refine oj_callP rfl rfl rfl rfl rfl Tryd.call25 (by (repeat' (first | exact trivial | exact vCells_lt _ _ _ _ _ _ | constructor))) (Count_c x σ3 _ Y.rep (by omega)) fun v hv => ⟨.a (.v (.int .i64 (cntV x))), trivial, hv.symm, ?_⟩
  refine oj_run TT rfl ?_
  (repeat refine oj_then ?_)
  refine cj_if rfl (fun h => absurd (show (!decide (rlaid = (cntV x : Int))) = true from h) (by rw [hlaidx]; simp)) (fun _ => ?_)
  (repeat (first | refine cj_seq ?_ | (refine cj_region ?_; refine oj_run TT rfl ?_) | refine oj_then ?_ | refine cj_skip ?_ | refine cj_block ?_ | refine nj_then ?_))
  refine cj_cutB (α := Unit) (fun _ => σ3) (fun _ => [(2, .a (.v (.int .i64 k))), (9, .a .tt), (10, .a (.v (.slice ao L.length cap))), (12, .a (.v (.int .i64 a))), (18, .a (.v (.slice no L.length nc)))]) (fun _ => []) (fun _ => []) 0 (fun _ => True) ?_ (fun _ _ => ?_)
  · refine cj_loop (fun (_ : Nat) => σ3) (fun j => [(2, .a (.v (.int .i64 k))), (9, .a .tt), (10, .a (.v (.slice ao L.length cap))), (12, .a (.v (.int .i64 a))), (18, .a (.v (.slice no L.length nc))), (20, .a (.v (.int .i64 (j : Nat))))]) (fun _ => []) (fun _ => []) 0 (fun j => j ≤ L.length) (fun j => L.length - j) 0 (Nat.zero_le _) rfl (by (repeat (first | exact trivial | refine And.intro rfl ?_))) (by (repeat (first | exact trivial | refine And.intro rfl ?_))) rfl (by (repeat' (first | exact trivial | constructor))) (by (repeat' exact trivial)) fun j hj => ?_
    (repeat (first | refine cj_seq ?_ | (refine cj_region ?_; refine oj_run TT rfl ?_) | refine oj_then ?_))
    refine cj_if rfl (fun h => ?_) (fun h => ?_)
    rotate_left
    · (repeat (first | refine cj_exit ?_ | refine nj_then_exit ?_ | refine nj_block_out ?_))
      refine nj_again () trivial Nat.zero_lt_one rfl (by (repeat (first | exact trivial | refine And.intro rfl ?_))) (by (repeat (first | exact trivial | refine And.intro rfl ?_))) rfl (by (repeat' (first | exact trivial | constructor))) (by (repeat' exact trivial))
    have hjl : j < L.length := by have := of_decide_eq_true h; omega
    have hrow := recRows_get (List.getElem?_eq_getElem hjl)
    generalize L[j] = rj at *
    (repeat (first | refine cj_seq ?_ | refine cj_skip ?_ | refine cj_block ?_ | refine nj_then ?_))
    refine cj_draw [(0,.pure),(1,.pure),(2,.pure),(3,.quiet),(4,.pure),(5,.pure),(6,.pure),(7,.quiet),(8,.pure)] mixed (by kernel_rfl) (oj_run TT rfl ?_)
    refine oj_idx TT rfl rfl rfl rfl rfl rfl rfl rfl rfl HN (by omega) hrow (oj_run TT rfl ?_)
    refine oj_idx TT rfl rfl rfl rfl rfl rfl rfl rfl rfl H (by omega) hrow (oj_run TT rfl ?_)
    refine oj_neRec rj rj rfl rfl rfl rfl rfl rfl rfl (oj_run TT rfl ?_)
    (repeat refine oj_then ?_)
    refine cj_if rfl (fun h => absurd (show (!decide (rj = rj)) = true from h) (by simp)) (fun _ => ?_)
    (repeat (first | (refine cj_region ?_; refine oj_run TT rfl ?_) | refine oj_nil ?_ | refine cj_skip ?_ | refine nj_then ?_ | refine nj_block ?_ | (refine oj_add rfl rfl rfl rfl rfl rfl (by omega) ?_; refine oj_run TT rfl ?_)))
    refine nj_again (j + 1) hjl (by omega) rfl (by (repeat (first | exact trivial | refine And.intro rfl ?_))) (by (repeat (first | exact trivial | refine And.intro rfl ?_))) rfl (by (repeat' (first | exact trivial | constructor))) (by (repeat' exact trivial))
  (repeat (first | refine cj_seq ?_ | (refine cj_region ?_; refine oj_run TT rfl ?_)))
  refine oj_callS rfl rfl rfl rfl rfl Tryd.call61 (by (repeat' (first | exact trivial | constructor))) (Room_c σ3 L S no nc HN a k) fun v σ4 hle4 hv => ⟨.a (.v (.int .i64 (roomG L a k))), trivial, hv.symm, ?_⟩
  have H := H.mono hle4
  refine oj_run TT rfl ?_
  refine oj_callS rfl rfl rfl rfl rfl Tryd.call61 (by (repeat' (first | exact trivial | constructor))) (Room_c σ4 L S ao cap H a k) fun v σ5 hle5 hv => ⟨.a (.v (.int .i64 (roomG L a k))), trivial, hv.symm, ?_⟩
  refine oj_run TT rfl ?_
  (repeat (first | refine oj_then ?_ | refine cj_ret ?_))
  refine nj_ret TT rfl fun β w' _ _ => ?_
  show Value.bool (decide (roomG L a k = roomG L a k)) = _
  rw [decide_eq_true rfl]
end Go.Sy
namespace Go.Sy
open Go.Proofs

/-! ### EditsDrop -/

set_option maxRecDepth 100000 in
set_option maxHeartbeats 1000000 in
theorem EditsDrop_c (σ : Snap) (g : GVal) (r : List AT) (i gp : Int) (hr : RepV σ g r) :
    PlainS Tryd.prog 16 [.agg r, .a (.v (.int .i64 i)), .a (.v (.int .i64 gp))] σ (fun v => v = .bool true) := by
  obtain ⟨la, lc, lrows, ma, mc, vrows, rfl, V⟩ := hr.open
  refine enter_p Tryd.func16 rfl rfl (by (repeat' (first | exact trivial | exact vCells_lt _ _ _ _ _ _ | constructor))) fun w => ?_
  (repeat (first | refine cj_seq ?_ | (refine cj_region ?_; refine oj_run TT rfl ?_) | refine oj_then ?_))
  refine oj_callS rfl rfl rfl rfl rfl Tryd.call60 (by (repeat' exact trivial)) (awake12_c σ) fun v σ0 hle0 hv => ⟨.a .tt, trivial, hv.symm, ?_⟩
  have V := V.monoC hle0.cle
  refine oj_run TT rfl ?_
  (repeat (first | refine cj_seq ?_ | (refine cj_region ?_; refine oj_run TT rfl ?_) | refine oj_then ?_))
  refine oj_callP rfl rfl rfl rfl rfl Tryd.call19 (by (repeat' (first | exact trivial | exact vCells_lt _ _ _ _ _ _ | constructor))) (Few_c σ0 g _ 1000 V.rep (by omega) (by omega)) fun v ⟨fb, hv, hfew⟩ => ⟨.a (.b fb), trivial, hv.symm, ?_⟩
  refine oj_run TT rfl ?_
  (repeat refine oj_then ?_)
  refine cj_if rfl (fun h => ?_) (fun h => ?_)
  · (repeat (first | refine cj_seq ?_ | (refine cj_region ?_; refine oj_run TT rfl ?_) | refine oj_then ?_ | refine cj_ret ?_ | refine nj_then_ret ?_))
    refine nj_ret TT rfl fun β w' _ _ => ?_
    rfl
  have hw : g.weight ≤ 1000 := by
    have := hfew (by simpa using h)
    omega
  have hgb := bAnd_le gp 15 (by omega) (by omega)
  (repeat (first | refine cj_seq ?_ | (refine cj_region ?_; refine oj_run TT rfl ?_) | refine cj_skip ?_ | refine nj_then ?_ | (refine oj_band rfl rfl rfl rfl rfl rfl ?_; refine oj_run TT rfl ?_) | (refine oj_add rfl rfl rfl rfl rfl rfl (by omega) ?_; refine oj_run TT rfl ?_)))
  generalize bAnd .i64 gp 15 = gb at hgb ⊢
  skip
  refine oj_callS rfl rfl rfl rfl rfl Tryd.call21 ⟨vCells_lt _ _ _ _ _ _, trivial, trivial⟩ (Shred_s σ0 g _ (1 + gb) V.rep (by omega)) fun v σ1 hle1 ⟨ao, cap, hv, H⟩ => ⟨.tup [.a (.v (.slice ao (shredG g (1 + gb)).1.length cap)), .a (.v (.int .i64 (shredG g (1 + gb)).2))], (by (repeat' (first | exact trivial | refine SV.lt_tup ?_ | constructor))), hv.symm, ?_⟩
  rw [shredG_k (by omega) (by omega)] at H ⊢
  by_cases hs : sane g ≠ 0
  · rw [if_pos hs] at H ⊢
    dsimp only at H ⊢
    refine oj_run TT rfl ?_
    (repeat (first | refine cj_seq ?_ | (refine cj_region ?_; refine oj_run TT rfl ?_) | refine oj_then ?_))
    refine oj_split 36 rfl (fun h => ?_) (fun h => absurd (by simpa using h) hs)
    refine oj_run TT rfl ?_
    (repeat (first | refine cj_seq ?_ | (refine cj_region ?_; refine oj_run TT rfl ?_) | refine oj_then ?_ | refine cj_if_t rfl ?_ | refine cj_ret ?_ | refine nj_then_ret ?_))
    refine nj_ret TT rfl fun β w' _ _ => ?_
    rfl
  have hs : sane g = 0 := by simpa using hs
  rw [if_neg (by simp [hs])] at H ⊢
  dsimp only at H ⊢
  have V := V.monoC hle1.cle
  generalize hLdef : (shredV (1 + gb) g 0 false emptyS 0).1 = L at *
  obtain ⟨hcnt, hlen1, hpos, hsound, R, hbL⟩ := shred_facts V.rep (by omega) (by omega) (by omega) hs hLdef.symm
  have S := shred_snd V.rep (by omega) (by omega) (by omega) hs hLdef.symm
  refine oj_run TT rfl ?_
  (repeat (first | refine cj_seq ?_ | (refine cj_region ?_; refine oj_run TT rfl ?_) | refine oj_then ?_))
  refine oj_split 36 rfl (fun h => absurd h (by decide)) (fun h => ?_)
  refine oj_run TT rfl ?_
  (repeat refine oj_then ?_)
  refine cj_if rfl (fun h => ?_) (fun h => ?_)
  · have := of_decide_eq_true h
    omega
  (repeat (first | refine cj_seq ?_ | (refine cj_region ?_; refine oj_run TT rfl ?_) | refine cj_skip ?_ | refine nj_then ?_ | (refine oj_band rfl rfl rfl rfl rfl rfl ?_; refine oj_run TT rfl ?_)))
  have hmi := bAnd_le i 65535 (by omega) (by omega)
  generalize bAnd .i64 i 65535 = m1 at hmi ⊢
  refine oj_rem rfl rfl rfl rfl rfl rfl (by omega) ?_
  obtain ⟨a, ha⟩ : ∃ a : Nat, m1.tmod L.length = a := ⟨(m1.tmod L.length).toNat, by
    have := Int.tmod_nonneg (L.length : Int) hmi.1
    omega⟩
  have hal : a < L.length := by
    have := Int.tmod_lt_of_pos m1 (show (0 : Int) < L.length by omega)
    omega
  rw [ha]
  have hkeys := sane_keys g 0 0 hs
  have hkinds := sane_kinds4 g 0 0 hs
  have hwf := V.rep.wf
  refine oj_run TT rfl ?_
  (repeat (first | refine cj_seq ?_ | (refine cj_region ?_; refine oj_run TT rfl ?_) | refine oj_then ?_))
  have hpl0 := sound_place hsound hal
  refine oj_callS rfl rfl rfl rfl rfl Tryd.call64 (by (repeat' (first | exact trivial | constructor))) (Delete12_c σ1 L S ao cap H a) fun v σ2 hle2 ⟨no, nc, hv, HN⟩ => ⟨.tup [.a (.v (.slice no (deleteG L a).1.length nc)), .a (.v (.int .i64 (deleteG L a).2))], (by (repeat' (first | exact trivial | refine SV.lt_tup ?_ | constructor))), hv.symm, ?_⟩
  have V := V.monoC hle2.cle
  have H := H.mono hle2
  refine oj_run TT rfl ?_
  (repeat (first | refine cj_seq ?_ | (refine cj_region ?_; refine oj_run TT rfl ?_) | refine oj_then ?_))
  refine cj_if rfl (fun h => ?_) (fun h => ?_)
  · have h := of_decide_eq_true (show decide ((a : Int) = 0) = true from h)
    have hd0 : (deleteG L a).2 = 6 := by
      unfold deleteG
      rw [if_neg (by rw [hpl0]; decide), if_pos h]
    (repeat (first | refine cj_seq ?_ | (refine cj_region ?_; refine oj_run TT rfl ?_) | refine oj_then ?_ | refine cj_ret ?_ | refine nj_then_ret ?_))
    refine nj_ret TT rfl fun β w' _ _ => ?_
    show Value.bool (decide ((deleteG L a).2 = 6)) = _
    rw [hd0]
    rfl
  have h := of_decide_eq_false (show decide ((a : Int) = 0) = false from h)
  obtain ⟨hG, now, hsub, hloc⟩ := shred_loc (gap := 1 + gb) (by omega) (nm := false) (name := emptyS) hwf hkeys (i := a) (by omega)
  rw [hLdef] at hsub hloc
  obtain ⟨P', hp, m, x, g', D⟩ := delete_law hwf hkeys hkinds hs (gap := 1 + gb) (by omega) hLdef.symm (by omega) hsub hloc
  have hlast := D.last
  have hle := D.le
  have hcG := cntV_pos hG
  have hdel : deleteG L a = (L.take a ++ L.drop (a + cntV hG), 0) := by
    unfold deleteG
    rw [if_neg (by rw [hpl0]; decide), if_neg h, Int.toNat_natCast, hlast, show ((a : Int) + cntV hG - 1 + 1).toNat = a + cntV hG by omega]
  rw [hdel] at HN ⊢
  dsimp only at HN ⊢
  have hmll : (L.take a ++ L.drop (a + cntV hG)).length = L.length - cntV hG := by
    rw [List.length_append, List.length_take, List.length_drop]
    omega
  have hg'c := (sane_iff.1 D.sane).2
  have hwV := wVg hwf (1 + gb)
  have hww : D.swap.weight = D.swap.weight := rfl
  have hsw := D.swap.weight
  have hdw : (delIt hp m).weight ≤ hp.weight := by
    have e0 := GVal.weight_eq hp
    have hes : ∀ (l : List GVal) (q : Nat), GVal.weights (l.eraseIdx q) ≤ GVal.weights l := by
      intro l
      induction l with
      | nil => intro q; simp
      | cons z l ih =>
        intro q
        cases q with
        | zero => simp only [List.eraseIdx_cons_zero, GVal.weights]; omega
        | succ q => have := ih q; simp only [List.eraseIdx_cons_succ, GVal.weights]; omega
    have hez : ∀ (l : List ByteArray) (q : Nat), sizes (l.eraseIdx q) ≤ sizes l := by
      intro l
      induction l with
      | nil => intro q; simp
      | cons z l ih =>
        intro q
        cases q with
        | zero => simp only [List.eraseIdx_cons_zero, sizes]; omega
        | succ q => have := ih q; simp only [List.eraseIdx_cons_succ, sizes]; omega
    unfold delIt
    split
    · have e1 := GVal.weight_eq (.mk hp.kind hp.b hp.n hp.s (hp.l.eraseIdx m) hp.ks hp.vs)
      have := hes hp.l m
      simp only [GVal.s, GVal.n, GVal.l, GVal.ks, GVal.vs] at e0 e1 this ⊢
      omega
    · have e1 := GVal.weight_eq (.mk hp.kind hp.b hp.n hp.s hp.l (hp.ks.eraseIdx (m - hp.l.length)) (hp.vs.eraseIdx (m - hp.l.length)))
      have h1 := hes hp.vs (m - hp.l.length)
      have h2 := hez hp.ks (m - hp.l.length)
      simp only [GVal.s, GVal.n, GVal.l, GVal.ks, GVal.vs] at e0 e1 h1 h2 ⊢
      omega
  have hgap : (1 + gb) * (cntV g : Int) ≤ 16 * 1000 := Int.mul_le_mul (by omega) (by omega) (by omega) (by omega)
  have hwV2 : wV (1 + gb) g ≤ 1099511627776 := by rw [hwV, Int.mul_assoc]; omega
  have SN := lay_snd D.res (by omega) D.wf (by omega) hwV2 (by omega)
  have hbN := D.res.buildR (by omega) D.wf D.sane (by omega) hwV2
  have hPa := D.eP
  have hpf := Loc.place hloc
  have hPl : (placeG L a).length ≤ 1000000 := by
    have := upF_len L (a + 1) a
    unfold placeG
    rw [List.length_reverse]
    omega
  have hlk : ∀ j r, (L.take a ++ L.drop (a + cntV hG))[j]? = some r → L[if a ≤ j then j + cntV hG else j]? = some r := fun j r hj => by
    by_cases hja : a ≤ j
    · rw [List.getElem?_append_right (by rw [List.length_take]; omega), List.length_take, Nat.min_eq_left (by omega), List.getElem?_drop] at hj
      rw [if_pos hja, ← hj]
      congr 1
      omega
    · rw [List.getElem?_append_left (by rw [List.length_take]; omega), List.getElem?_take, if_pos (by omega)] at hj
      rw [if_neg hja]
      exact hj
  (repeat (first | refine cj_seq ?_ | (refine cj_region ?_; refine oj_run TT rfl ?_) | refine cj_skip ?_ | refine nj_then ?_))
  refine oj_callS rfl rfl rfl rfl rfl Tryd.call27 (by (repeat' (first | exact trivial | constructor))) (Place_c σ2 L R ao cap H a hal hsound (by omega)) fun v σ3 hle3 ⟨oo, oc, hv, HP⟩ => ⟨.a (.v (.slice oo (placeG L a).length oc)), trivial, hv.symm, ?_⟩
  have V := V.monoC hle3.cle
  have H := H.mono hle3
  have HN := HN.mono hle3
  refine oj_run TT rfl ?_
  (repeat (first | refine cj_seq ?_ | (refine cj_region ?_; refine oj_run TT rfl ?_) | refine oj_then ?_))
  refine oj_callS rfl rfl rfl rfl rfl Tryd.call67 ⟨vCells_lt _ _ _ _ _ _, trivial, trivial⟩ (Drop_c σ3 g la lc lrows ma mc vrows V (by omega) hkeys hkinds hPa D.ex D.swap hPl oo oc HP) fun v σ4 hle4 ⟨rw_, hv, hrepW⟩ => ⟨.tup [.agg rw_, .a (.v (.int .i64 0))], SV.lt_tup ⟨hrepW.clo, trivial, trivial⟩, hv.symm, ?_⟩
  obtain ⟨xla, xlc, xlrows, xma, xmc, xvrows, rfl, XV⟩ := hrepW.open
  have H := H.mono hle4
  have HN := HN.mono hle4
  refine oj_run TT rfl ?_
  (repeat (first | refine cj_seq ?_ | (refine cj_region ?_; refine oj_run TT rfl ?_) | refine oj_then ?_))
  refine oj_callS rfl rfl rfl rfl rfl Tryd.call22 ⟨trivial, trivial⟩ (Build_c σ4 _ SN.ok.len SN.ok.fit SN.ok.bw no nc HN) fun v σ5 hle5 ⟨rb_, hv, hrepB⟩ => ⟨.tup [.agg rb_, .a (.v (.int .i64 (buildR (L.take a ++ L.drop (a + cntV hG))).2))], SV.lt_tup ⟨hrepB.clo, trivial, trivial⟩, hv.symm, ?_⟩
  rw [hbN] at hrepB ⊢
  dsimp only at hrepB ⊢
  obtain ⟨bla, blc, blrows, bma, bmc, bvrows, rfl, BV⟩ := hrepB.open
  have XV := XV.monoC hle5.cle
  have H := H.mono hle5
  have HN := HN.mono hle5
  refine oj_run TT rfl ?_
  (repeat (first | refine cj_seq ?_ | (refine cj_region ?_; refine oj_run TT rfl ?_) | refine oj_then ?_))
  refine oj_callP rfl rfl rfl rfl rfl Tryd.call40 (by (repeat' (first | exact trivial | constructor))) (Last_c σ5 L R ao cap H a hal hsound) fun v hv => ⟨.a (.v (.int .i64 (lastG L a))), trivial, hv.symm, ?_⟩
  refine oj_run TT rfl ?_
  rw [hlast]
  refine oj_minus rfl rfl rfl rfl rfl rfl (by omega) (oj_run TT rfl ?_)
  rw [show (a : Int) + cntV hG - 1 - a = (cntV hG : Int) - 1 by omega]
  refine oj_run TT rfl ?_
  refine oj_add rfl rfl rfl rfl rfl rfl (by omega) (oj_run TT rfl ?_)
  rw [show (cntV hG : Int) - 1 + 1 = (cntV hG : Int) by omega]
  refine oj_run TT rfl ?_
  (repeat (first | refine cj_seq ?_ | (refine cj_region ?_; refine oj_run TT rfl ?_) | refine oj_then ?_))
  refine oj_split 82 rfl (fun h => absurd h (by decide)) (fun _ => ?_)
  refine oj_run TT rfl ?_
  refine oj_split 86 rfl (fun h => absurd h (by decide)) (fun _ => ?_)
  refine oj_run TT rfl ?_
  refine oj_split 90 rfl (fun h => absurd h (by decide)) (fun _ => ?_)
  refine oj_run TT rfl ?_
  refine oj_callP rfl rfl rfl rfl rfl Tryd.call23 (by (repeat' (first | exact trivial | exact vCells_lt _ _ _ _ _ _ | constructor))) (Exact_c g' σ5 g' _ _ BV.rep XV.rep) fun v hv => ⟨.a .tt, trivial, (by rw [hv, exactG_self g' D.wf]; rfl), ?_⟩
  refine oj_run TT rfl ?_
  refine oj_minus rfl rfl rfl rfl rfl rfl (by omega) (oj_run TT rfl ?_)
  refine oj_run TT rfl ?_
  (repeat refine oj_then ?_)
  generalize hml : L.take a ++ L.drop (a + cntV hG) = ml at *
  refine cj_if rfl (fun h => absurd (show (!decide ((ml.length : Int) = (L.length : Int) - (cntV hG : Int))) = true from h) (by rw [hmll]; simp; omega)) (fun _ => ?_)
  (repeat (first | refine cj_seq ?_ | (refine cj_region ?_; refine oj_run TT rfl ?_) | refine oj_then ?_ | refine cj_skip ?_ | refine cj_block ?_ | refine nj_then ?_))
  refine cj_cutB (α := Unit) (fun _ => σ5) (fun _ => [(7, .a .tt)]) (fun _ => []) (fun _ => []) 0 (fun _ => True) ?_ (fun _ _ => ?_)
  · refine cj_loop (fun (_ : Nat) => σ5) (fun j => [(7, .a .tt), (8, .a (.v (.slice ao L.length cap))), (10, .a (.v (.int .i64 a))), (11, .a (.v (.slice no ml.length nc))), (18, .a (.v (.int .i64 (cntV hG)))), (19, .a (.v (.int .i64 (j : Nat))))]) (fun _ => []) (fun _ => []) 0 (fun j => j ≤ ml.length) (fun j => ml.length - j) 0 (Nat.zero_le _) rfl (by (repeat (first | exact trivial | refine And.intro rfl ?_))) (by (repeat (first | exact trivial | refine And.intro rfl ?_))) rfl (by (repeat' (first | exact trivial | constructor))) (by (repeat' exact trivial)) fun j hj => ?_
    (repeat (first | refine cj_seq ?_ | (refine cj_region ?_; refine oj_run TT rfl ?_) | refine oj_then ?_))
    refine cj_if rfl (fun h => ?_) (fun h => ?_)
    rotate_left
    · (repeat (first | refine cj_exit ?_ | refine nj_then_exit ?_ | refine nj_block_out ?_))
      refine nj_again () trivial Nat.zero_lt_one rfl (by (repeat (first | exact trivial | refine And.intro rfl ?_))) (by (repeat (first | exact trivial | refine And.intro rfl ?_))) rfl (by (repeat' (first | exact trivial | constructor))) (by (repeat' exact trivial))
    have hjl : j < ml.length := by have := of_decide_eq_true h; omega
    have hmj : ml[j]? = some ml[j] := List.getElem?_eq_getElem hjl
    have hLk := hlk j _ hmj
    have hrow := recRows_get hmj
    have hrowL := recRows_get hLk
    generalize ml[j] = rj at *
    (repeat (first | refine cj_seq ?_ | (refine cj_region ?_; refine oj_run TT rfl ?_) | refine oj_then ?_ | refine cj_skip ?_ | refine cj_block ?_ | refine nj_then ?_))
    refine cj_cutN (fun (_ : Unit) => σ5) (fun _ => [(7, .a .tt), (8, .a (.v (.slice ao L.length cap))), (10, .a (.v (.int .i64 a))), (11, .a (.v (.slice no ml.length nc))), (18, .a (.v (.int .i64 (cntV hG)))), (19, .a (.v (.int .i64 (j : Nat)))), (20, .a (.v (.int .i64 ((if a ≤ j then j + cntV hG else j : Nat) : Int))))]) (fun _ => []) (fun _ => []) 0 (fun _ => True) ?_ (fun _ _ => ?_)
    · refine cj_if rfl (fun h => ?_) (fun h => ?_)
      · have h := of_decide_eq_true (show decide ((j : Int) ≥ a) = true from h)
        rw [if_pos (show a ≤ j by omega)]
        (repeat (first | (refine cj_region ?_; refine oj_run TT rfl ?_) | refine oj_nil ?_ | (refine oj_add rfl rfl rfl rfl rfl rfl (by omega) ?_; refine oj_run TT rfl ?_)))
        refine nj_again () trivial Nat.zero_lt_one rfl (by (repeat (first | exact trivial | refine And.intro rfl ?_))) (by (repeat (first | exact trivial | refine And.intro rfl ?_))) rfl (by (repeat' (first | exact trivial | constructor))) (by (repeat' exact trivial))
      · have h := of_decide_eq_false (show decide ((j : Int) ≥ a) = false from h)
        rw [if_neg (show ¬ a ≤ j by omega)]
        (repeat refine cj_skip ?_)
        refine nj_again () trivial Nat.zero_lt_one rfl (by (repeat (first | exact trivial | refine And.intro rfl ?_))) (by (repeat (first | exact trivial | refine And.intro rfl ?_))) rfl (by (repeat' (first | exact trivial | constructor))) (by (repeat' exact trivial))
    generalize (if a ≤ j then j + cntV hG else j : Nat) = q at *
    (repeat refine cj_seq ?_)
    refine cj_draw [(0,.pure),(1,.pure),(2,.pure),(3,.quiet),(4,.pure),(5,.pure),(6,.pure),(7,.quiet),(8,.pure)] mixed (by kernel_rfl) (oj_run TT rfl ?_)
    refine oj_idx TT rfl rfl rfl rfl rfl rfl rfl rfl rfl HN (by omega) hrow (oj_run TT rfl ?_)
    refine oj_idx TT rfl rfl rfl rfl rfl rfl rfl rfl rfl H (by omega) hrowL (oj_run TT rfl ?_)
    refine oj_neRec rj rj rfl rfl rfl rfl rfl rfl rfl (oj_run TT rfl ?_)
    (repeat refine oj_then ?_)
    refine cj_if rfl (fun h => absurd (show (!decide (rj = rj)) = true from h) (by simp)) (fun _ => ?_)
    (repeat (first | (refine cj_region ?_; refine oj_run TT rfl ?_) | refine oj_nil ?_ | refine cj_skip ?_ | refine nj_then ?_ | refine nj_block ?_ | (refine oj_add rfl rfl rfl rfl rfl rfl (by omega) ?_; refine oj_run TT rfl ?_)))
    refine nj_again (j + 1) hjl (by omega) rfl (by (repeat (first | exact trivial | refine And.intro rfl ?_))) (by (repeat (first | exact trivial | refine And.intro rfl ?_))) rfl (by (repeat' (first | exact trivial | constructor))) (by (repeat' exact trivial))
  (repeat (first | refine cj_seq ?_ | (refine cj_region ?_; refine oj_run TT rfl ?_) | refine oj_then ?_ | refine cj_ret ?_))
  refine nj_ret TT rfl fun β w' _ _ => ?_
  rfl
end Go.Sy
/- From a row's data to what the walks ask: a value that is read in the world is a tree that lies in memory, all of it sealed. -/
namespace Go.Sy
open Go.ChangeShapes Go.RowKit

def snapOf (W : World) : Snap := fun b => W.heap[b]?
theorem snapOf_sealed (W : World) : Sealed (snapOf W) W := fun _ _ h => h
theorem snapOf_cell (W : World) (a : Addr) : (snapOf W).cell a = W.cell? a := rfl

/-- The types of a value: itself, its list, its members, a member, its number, text, number, truth. -/
structure VT (P : Program) (tV tL tM tE tD tS tI tB : TypeId) : Prop where
  v : ∃ fs : Array Field, P.underlying tV = some (.struct fs) ∧ fs.toList.map (fun f => (f.type, f.offset)) = [(tI, 0), (tB, 1), (tD, 2), (tS, 5), (tL, 6), (tM, 7)]
  l : P.underlying tL = some (.slice tV)
  m : P.underlying tM = some (.slice tE)
  e : ∃ fs : Array Field, P.underlying tE = some (.struct fs) ∧ fs.toList.map (fun f => (f.type, f.offset)) = [(tS, 0), (tV, 1)]
  d : ∃ fs : Array Field, P.underlying tD = some (.struct fs) ∧ fs.toList.map (fun f => (f.type, f.offset)) = [(tB, 0), (tS, 1), (tI, 2)]
  s : P.underlying tS = some .string
  i : P.underlying tI = some (.int .i64)
  b : P.underlying tB = some .bool
  cV : P.cellsOf tV = 8
  cE : P.cellsOf tE = 9
  cD : P.cellsOf tD = 3
  cS : P.cellsOf tS = 1
  cI : P.cellsOf tI = 1
  cB : P.cellsOf tB = 1
  cL : P.cellsOf tL = 1
  cM : P.cellsOf tM = 1
  bV : 0 < P.bytesOf tV
  bE : 0 < P.bytesOf tE

section
variable {H : Type} {enc : TypeId × Value → H} {P : Program} {w : World} {sp : Nat → Bool} {held : Bool}

theorem field_at {fs : Array Field} {l : List (TypeId × Nat)} (h : fs.toList.map (fun f => (f.type, f.offset)) = l) {i : Nat} {t : TypeId} {o : Nat} (hi : l[i]? = some (t, o)) :
    ∃ f, fs[i]? = some f ∧ f.type = t ∧ f.offset = o := by
  subst h
  rw [List.getElem?_map] at hi
  simp only [Option.map_eq_some_iff, Prod.mk.injEq] at hi
  obtain ⟨f, h1, h2, h3⟩ := hi
  exact ⟨f, by simpa using h1, h2, h3⟩

theorem open_struct {t : TypeId} {fs : Array Field} {l : List (TypeId × Nat)} {n : Nat} {cs : List Value} {x : DataW H × List MemPlace} (hu : P.underlying t = some (.struct fs)) (hl : fs.toList.map (fun f => (f.type, f.offset)) = l)
    (h : DataW.trod enc P w 0 sp held n t cs = some x) :
    ∃ m, m < n ∧ cs.length = P.cellsOf t ∧ ∀ (i : Nat) (u : TypeId) (o : Nat), l[i]? = some (u, o) → ∃ y : DataW H × List MemPlace, DataW.trod enc P w 0 sp held m u ((cs.drop o).take (P.cellsOf u)) = some y ∧ ∀ k ∈ y.1.weights P u, k ∈ x.1.weights P t := by
  obtain ⟨xs, m, rfl, rfl, h1, h2, h3⟩ := DataW.trod_struct hu h
  refine ⟨m, by omega, h1, fun i u o hi => ?_⟩
  obtain ⟨f, hf, rfl, rfl⟩ := field_at hl hi
  have hi' : i < xs.length := by
    rw [h2]
    have := (List.getElem?_eq_some_iff.1 (show fs.toList[i]? = some f by simpa using hf)).1
    simpa using this
  refine ⟨xs[i], by rw [h3 i f hf, List.getElem?_eq_getElem hi'], fun k hk => ?_⟩
  rw [DataW.weights.eq_def]
  simp only [hu]
  exact DataW.weights_mem_each (j := i) (t := f.type) (d := xs[i].1) (by simp; exact ⟨f, by simpa using hf, rfl⟩) (by simp [List.getElem?_eq_getElem hi']) k hk

theorem weightsAll_mem {e : TypeId} : ∀ {ds : List (DataW H)} {d : DataW H}, d ∈ ds → ∀ k ∈ d.weights P e, k ∈ DataW.weightsAll P e ds
  | _ :: _, _, .head _, k, hk => by rw [DataW.weightsAll]; exact List.mem_append_left _ hk
  | _ :: _, _, .tail _ h, k, hk => by rw [DataW.weightsAll]; exact List.mem_append_right _ (weightsAll_mem h k hk)

theorem open_sl {t e : TypeId} {n sz : Nat} {c : Value} {x : DataW H × List MemPlace} (hu : P.underlying t = some (.slice e)) (hc : P.cellsOf e = sz) (hb : 0 < P.bytesOf e) (h : DataW.trod enc P w 0 sp held n t [c] = some x)
    (hw : ∀ k ∈ x.1.weights P t, k ≤ reachBytes) :
    ∃ (ao : Option Addr) (len cap m : Nat), c = .slice ao len cap ∧ m < n ∧ len ≤ cap ∧ len ≤ reachBytes ∧
      (len = 0 ∨ ∃ a, ao = some a ∧ ∀ i, i < len → ∃ (cs : List Value) (y : DataW H × List MemPlace), cs.length = sz ∧ (∀ j v, cs[j]? = some v → w.cell? (a.add (i * sz + j)) = some v) ∧
        DataW.trod enc P w 0 sp held m e cs = some y ∧ ∀ k ∈ y.1.weights P e, k ∈ x.1.weights P t) := by
  rcases DataW.trod_slice hu h with ⟨h1, rfl⟩ | ⟨a, len, cap, elems, rest, m, rfl, h1, rfl, _, h3, h4, h5, h6, _, _⟩
  · injection h1 with h1
    subst h1
    refine ⟨none, 0, 0, 0, rfl, ?_, Nat.le_refl _, by decide, .inl rfl⟩
    cases n with
    | zero => simp [DataW.trod] at h
    | succ n => omega
  · injection h1 with h1
    subst h1
    have hwt : (DataW.slice (elems.map (·.1)) (rest.map (·.1)) : DataW H).weights P t = ((elems.map (·.1)).length + (rest.map (·.1)).length) * P.bytesOf e :: (DataW.weightsAll P e (elems.map (·.1)) ++ DataW.weightsAll P e (rest.map (·.1))) := by
      rw [DataW.weights.eq_def]
      simp only [hu]
    refine ⟨some a, len, cap, m, rfl, by omega, h3, ?_, .inr ⟨a, rfl, fun i hi => ?_⟩⟩
    · have := hw _ (by rw [hwt]; exact List.mem_cons_self)
      simp only [List.length_map] at this
      have h7 : elems.length ≤ (elems.length + rest.length) * P.bytesOf e := Nat.le_trans (Nat.le_add_right _ _) (Nat.le_mul_of_pos_right _ hb)
      omega
    · have hi' : i < elems.length := by omega
      have h8 := h6 i hi
      rw [List.getElem?_eq_getElem hi', hc] at h8
      obtain ⟨cs, h9, h10⟩ := Option.bind_eq_some_iff.1 h8
      obtain ⟨_, h11, h12⟩ := World.cells?_some h9
      refine ⟨cs, elems[i], h11, fun j v hj => ?_, h10, fun k hk => ?_⟩
      · have hj' : j < sz := by rw [← h11]; exact (List.getElem?_eq_some_iff.1 hj).1
        have := h12 j hj'
        rw [hj] at this
        rw [← this]
        congr 1
        exact (Addr.add_add _ _ _).symm
      · rw [hwt]
        exact List.mem_cons_of_mem _ (List.mem_append_left _ (weightsAll_mem (List.mem_map.2 ⟨elems[i], List.getElem_mem hi', rfl⟩) k hk))

theorem RepL.range {σ : Snap} {G : Nat → GVal} {R : Nat → List AT} : ∀ l : List Nat, (∀ i ∈ l, RepV σ (G i) (R i)) → RepL σ (l.map G) (l.map R)
  | [], _ => by simp [RepL]
  | a :: l, h => by
    simp only [List.map_cons, RepL]
    exact ⟨R a, l.map R, rfl, h a List.mem_cons_self, RepL.range l fun i hi => h i (List.mem_cons_of_mem _ hi)⟩

theorem keyRows_range (K : Nat → ByteArray) (R : Nat → List AT) : ∀ l : List Nat, keyRows (l.map K) (l.map R) = l.map fun i => keyRow (K i) (R i)
  | [] => rfl
  | a :: l => by simp [keyRows, keyRows_range K R l]

/-- What each of its elements is, read off the memory. -/
theorem slAt_range {ao : Option Addr} {len cap sz : Nat} {R : Nat → List AT} (h1 : len ≤ cap) (h2 : ∀ i, i < len → (R i).length = sz ∧ ∀ c ∈ R i, c.lt 0)
    (h3 : len = 0 ∨ ∃ a, ao = some a ∧ ∀ i, i < len → ∀ j v, ((R i).map (AT.den β0))[j]? = some v → w.cell? (a.add (i * sz + j)) = some v) : SlAt (snapOf w) ao len cap sz ((List.range len).map R) := by
  refine ⟨by simp, h1, fun r hr => ?_, ?_⟩
  · obtain ⟨i, hi, rfl⟩ := List.mem_map.1 hr
    exact h2 i (List.mem_range.1 hi)
  · rcases h3 with h3 | ⟨a, h3, h4⟩
    · exact .inl h3
    · refine .inr ⟨a, h3, fun i r j c hr hc => ?_⟩
      rw [List.getElem?_map] at hr
      obtain ⟨i', h5, rfl⟩ := Option.map_eq_some_iff.1 hr
      obtain ⟨h6, h7⟩ := List.getElem?_eq_some_iff.1 h5
      have h8 : i < len := by simpa using h6
      have h9 : i' = i := by simpa using h7.symm
      subst h9
      rw [snapOf_cell]
      exact h4 i' h8 j _ (by rw [List.getElem?_map, hc]; rfl)

variable {tV tL tM tE tD tS tI tB : TypeId}

theorem open_str {n : Nat} {t : TypeId} {c : Value} {x : DataW H × List MemPlace} (hu : P.underlying t = some .string) (h : DataW.trod enc P w 0 sp held n t [c] = some x) (hw : ∀ k ∈ x.1.weights P t, k ≤ reachBytes) :
    ∃ s : ByteArray, c = .string s ∧ s.size ≤ mostLen := by
  obtain ⟨s, h1, rfl, _⟩ := DataW.trod_string hu h
  injection h1 with h1
  subst h1
  refine ⟨s, rfl, ?_⟩
  have := hw s.data.toList.length (by rw [DataW.weights.eq_def]; exact List.mem_cons_self)
  have h2 : s.data.toList.length = s.size := rfl
  rw [h2] at this
  exact this

/-- A VALUE THAT IS READ is a tree, and lies there. -/
theorem open_val (T : VT P tV tL tM tE tD tS tI tB) : ∀ (n : Nat) (cs : List Value) (x : DataW H × List MemPlace), DataW.trod enc P w 0 sp held n tV cs = some x → (∀ k ∈ x.1.weights P tV, k ≤ reachBytes) →
    ∃ (g : GVal) (r : List AT), cs = r.map (AT.den β0) ∧ RepV (snapOf w) g r := by
  intro n
  induction n using Nat.strongRecOn with
  | _ n ih => ?_
  intro cs x h hw
  obtain ⟨fs, hu, hl⟩ := T.v
  obtain ⟨m, hm, hlen, hf⟩ := open_struct hu hl h
  rw [T.cV] at hlen
  match cs, hlen with
  | [c0, c1, c2, c3, c4, c5, c6, c7], _ =>
  obtain ⟨y0, h0, _⟩ := hf 0 tI 0 rfl
  obtain ⟨y1, h1, _⟩ := hf 1 tB 1 rfl
  obtain ⟨y2, h2, w2⟩ := hf 2 tD 2 rfl
  obtain ⟨y3, h3, w3⟩ := hf 3 tS 5 rfl
  obtain ⟨y4, h4, w4⟩ := hf 4 tL 6 rfl
  obtain ⟨y5, h5, w5⟩ := hf 5 tM 7 rfl
  rw [T.cI] at h0
  rw [T.cB] at h1
  rw [T.cD] at h2
  rw [T.cS] at h3
  rw [T.cL] at h4
  rw [T.cM] at h5
  simp only [List.drop_zero, List.drop_succ_cons, List.take_succ_cons, List.take_zero] at h0 h1 h2 h3 h4 h5
  obtain ⟨k, e0, -, -⟩ := DataW.trod_int T.i h0
  obtain ⟨b, e1, -⟩ := DataW.trod_bool T.b h1
  obtain ⟨s, e5, hs⟩ := open_str T.s h3 fun k hk => hw k (w3 k hk)
  obtain ⟨fd, hud, hld⟩ := T.d
  obtain ⟨md, hmd, -, hfd⟩ := open_struct hud hld h2
  obtain ⟨z0, g0, _⟩ := hfd 0 tB 0 rfl
  obtain ⟨z1, g1, v1⟩ := hfd 1 tS 1 rfl
  obtain ⟨z2, g2, _⟩ := hfd 2 tI 2 rfl
  rw [T.cB] at g0
  rw [T.cS] at g1
  rw [T.cI] at g2
  simp only [List.drop_zero, List.drop_succ_cons, List.take_succ_cons, List.take_zero] at g0 g1 g2
  obtain ⟨ng, e2, -⟩ := DataW.trod_bool T.b g0
  obtain ⟨dg, e3, hdg⟩ := open_str T.s g1 fun k hk => hw k (w2 k (v1 k hk))
  obtain ⟨ex, e4, -, -⟩ := DataW.trod_int T.i g2
  injection e0 with e0
  injection e1 with e1
  injection e2 with e2
  injection e4 with e4
  subst e0 e1 e2 e3 e4 e5
  obtain ⟨la, ll, lc, ml, rfl, hml, hll, hlr, hle⟩ := open_sl T.l T.cV T.bV h4 fun k hk => hw k (w4 k hk)
  obtain ⟨ma, lm, mc, mm, rfl, hmm, hlm, hmr, hme⟩ := open_sl T.m T.cE T.bE h5 fun k hk => hw k (w5 k hk)
  have HL : ∀ i, ∃ gr : GVal × List AT, i < ll → RepV (snapOf w) gr.1 gr.2 ∧ ∀ a, la = some a → ∀ j v, (gr.2.map (AT.den β0))[j]? = some v → w.cell? (a.add (i * 8 + j)) = some v := by
    intro i
    by_cases hi : i < ll
    · rcases hle with h0 | ⟨a, rfl, hle⟩
      · omega
      · obtain ⟨cs, y, _, q2, q3, q4⟩ := hle i hi
        obtain ⟨g, r, rfl, hr⟩ := ih ml (by omega) cs y q3 fun k hk => hw k (w4 k (q4 k hk))
        exact ⟨(g, r), fun _ => ⟨hr, fun a' ha => by injection ha with ha; subst ha; exact q2⟩⟩
    · exact ⟨(.mk 0 false ⟨false, ⟨#[]⟩, 0⟩ ⟨#[]⟩ [] [] [], []), fun h => absurd h hi⟩
  have HM : ∀ i, ∃ gr : ByteArray × GVal × List AT, i < lm → gr.1.size ≤ mostLen ∧ RepV (snapOf w) gr.2.1 gr.2.2 ∧ ∀ a, ma = some a → ∀ j v, ((keyRow gr.1 gr.2.2).map (AT.den β0))[j]? = some v → w.cell? (a.add (i * 9 + j)) = some v := by
    intro i
    by_cases hi : i < lm
    · rcases hme with h0 | ⟨a, rfl, hme⟩
      · omega
      · obtain ⟨cs, y, q1, q2, q3, q4⟩ := hme i hi
        obtain ⟨fe, hue, hle'⟩ := T.e
        obtain ⟨me, hme', -, hfe⟩ := open_struct hue hle' q3
        obtain ⟨u0, p0, x0⟩ := hfe 0 tS 0 rfl
        obtain ⟨u1, p1, x1⟩ := hfe 1 tV 1 rfl
        rw [T.cS] at p0
        rw [T.cV] at p1
        match cs, q1 with
        | c :: cs', q1 =>
          simp only [List.drop_zero, List.drop_succ_cons, List.take_succ_cons, List.take_zero] at p0 p1
          rw [List.take_of_length_le (by simp at q1; omega)] at p1
          obtain ⟨key, rfl, hk⟩ := open_str T.s p0 fun k hk => hw k (w5 k (q4 k (x0 k hk)))
          obtain ⟨g, r, rfl, hr⟩ := ih me (by omega) cs' u1 p1 fun k hk => hw k (w5 k (q4 k (x1 k hk)))
          exact ⟨(key, g, r), fun _ => ⟨hk, hr, fun a' ha => by injection ha with ha; subst ha; exact q2⟩⟩
    · exact ⟨(⟨#[]⟩, .mk 0 false ⟨false, ⟨#[]⟩, 0⟩ ⟨#[]⟩ [] [] [], []), fun h => absurd h hi⟩
  obtain ⟨FL, HL⟩ := Classical.axiomOfChoice HL
  obtain ⟨FM, HM⟩ := Classical.axiomOfChoice HM
  refine ⟨.mk k b ⟨ng, dg, ex⟩ s ((List.range ll).map fun i => (FL i).1) ((List.range lm).map fun i => (FM i).1) ((List.range lm).map fun i => (FM i).2.1),
    [.v (.int .i64 k), .b b, .b ng, .v (.string dg), .v (.int .i64 ex), .v (.string s), .v (.slice la ll lc), .v (.slice ma lm mc)], rfl, ?_⟩
  simp only [RepV]
  refine ⟨la, lc, (List.range ll).map fun i => (FL i).2, ma, mc, (List.range lm).map fun i => (FM i).2.2, by simp, ?_, RepL.range _ fun i hi => (HL i (List.mem_range.1 hi)).1, by simp, ?_, RepL.range _ fun i hi => (HM i (List.mem_range.1 hi)).2.1, hdg, hs, by simpa [mostLen, reachBytes] using hlr, by simpa [mostLen, reachBytes] using hmr, ?_⟩
  · simp only [List.length_map, List.length_range]
    refine slAt_range hll (fun i hi => ⟨(HL i hi).1.len, (HL i hi).1.clo⟩) ?_
    rcases hle with h0 | ⟨a, rfl, _⟩
    · exact .inl h0
    · exact .inr ⟨a, rfl, fun i hi => (HL i hi).2 a rfl⟩
  · rw [keyRows_range]
    simp only [List.length_map, List.length_range]
    refine slAt_range hlm (fun i hi => ⟨by simp [keyRow, (HM i hi).2.1.len], fun c hc => ?_⟩) ?_
    · cases hc with
      | head => trivial
      | tail _ hc => exact (HM i hi).2.1.clo c hc
    · rcases hme with h0 | ⟨a, rfl, _⟩
      · exact .inl h0
      · exact .inr ⟨a, rfl, fun i hi => (HM i hi).2.2 a rfl⟩
  · intro key hk
    obtain ⟨i, hi, rfl⟩ := List.mem_map.1 hk
    exact (HM i (List.mem_range.1 hi)).1

end
end Go.Sy
/- The closing of a law's row, alike from law to law. -/
namespace Go.Sy
open Go.ChangeShapes Go.RowKit

section
variable {H : Type} {enc : TypeId × Value → H} {P : Program} {W W' : World} {sp : Nat → Bool}

theorem trodAll_stays {T : TypeId → Prop} (K : _root_.Go.Kids P T) (hz : ∀ t e, T t → P.underlying t = some (.slice e) → 0 < P.cellsOf e) :
    ∀ {ts : List TypeId} {vs : List Value} {ds : List (DataW H)} {ps : List MemPlace}, (∀ t ∈ ts, T t) → DataW.TrodAll enc P W 0 (fun _ => true) true ts vs ds ps →
      (∀ p ∈ ps, W.sameAt W' p) → (∀ p ∈ ps, sp p.block = true) → DataW.TrodAll enc P W' 0 sp true ts vs ds ps
  | [], [], [], _, _, h, _, _ => h
  | _ :: _, _ :: _, _ :: _, _, hT, ⟨p, q, ⟨n, h1⟩, h2, e⟩, hs, hb =>
    ⟨p, q, ⟨n, DataW.trod_stays K (fun ht hu => hz _ _ ht hu) (fun h => by cases h) (hT _ List.mem_cons_self) h1 (fun x hx => hs x (by rw [e]; exact List.mem_append_left _ hx)) (fun x hx => hb x (by rw [e]; exact List.mem_append_left _ hx))⟩,
      trodAll_stays K hz (fun t ht => hT t (List.mem_cons_of_mem _ ht)) h2 (fun x hx => hs x (by rw [e]; exact List.mem_append_right _ hx)) (fun x hx => hb x (by rw [e]; exact List.mem_append_right _ hx)), e⟩

theorem below_of_fr {M : Nat → Prop} {w w' : World} (h : Fr M w w') (hM : ∀ b, ¬ M b) : Below w.heap.size w w' := ⟨h.os, h.tape, h.output, h.size, fun k hk => h.block k hk (hM k)⟩

/-- A law's answer is true and nothing that was there has turned. -/
theorem post_of_law {f : Func} {s : ChangeSpec} {apart fresh handsOn again : Bool} {args : Array Value} {ds gs : List (DataW H)} {before : List MemPlace} {tB : TypeId}
    (hl : laidOutB P = true) (hm : mapsRowed P = true) (hz : ∀ t e, t < P.types.size → P.underlying t = some (.slice e) → 0 < P.cellsOf e)
    (hts : ∀ t ∈ f.params.toList, t < P.types.size) (hr : f.resultTypes = #[tB]) (hB : P.underlying tB = some .bool) (hv : s.vars = [])
    (hres : (s.fn H (ds ++ gs)).results = [.lit (.bool true)]) (hargs : (s.fn H (ds ++ gs)).args = ds) (hvars : (s.fn H (ds ++ gs)).vars = [])
    (hW : DataW.Whole enc P f.params.toList s.vars apart W args.toList ds gs before) (hb : Below W.heap.size W W') :
    s.post enc P f apart fresh handsOn again W args (.bool true) W' := by
  have hW' := hW
  obtain ⟨p, q, hA, hV, rfl, hfz, hnd⟩ := hW
  rw [hv] at hV
  obtain ⟨rfl, rfl⟩ := trodVars_none hV
  have hlt : ∀ x ∈ p ++ ([] : List MemPlace), x.block < W.heap.size := fun x hx => hW'.lt x hx
  have h1 : ∀ (b : Nat) (sp : Nat → Bool) (hd : Bool), DataW.TrodAll enc P W' b sp hd f.resultTypes.toList ((Value.bool true).resultList f.resultTypes.size) (s.fn H (ds ++ [])).results [] := by
    intro b sp hd
    rw [hr, hres]
    exact trodAll_mk1 (shut_bool hB true)
  have h2 : ∀ sp : Nat → Bool, (∀ x ∈ p ++ ([] : List MemPlace), sp x.block = true) → DataW.TrodAll enc P W' 0 sp true f.params.toList args.toList (s.fn H (ds ++ [])).args p := by
    intro sp hs
    rw [hargs]
    exact trodAll_stays (T := (· < P.types.size)) (kids_rows hl hm) hz hts hA (fun x hx => hb.same (hlt x (List.mem_append_left _ hx))) (fun x hx => hs x (List.mem_append_left _ hx))
  have h3 : ∀ sp : Nat → Bool, DataW.TrodVars enc P W' sp s.vars (s.fn H (ds ++ [])).vars [] := by
    intro sp
    rw [hv, hvars]
    rfl
  have hold : ∀ x ∈ p ++ ([] : List MemPlace), (fun b => decide (b < W.heap.size)) x.block = true := fun x hx => by simpa using hlt x hx
  refine ⟨ds, [], _, [], p, [], hW', h1 _ _ _, h2 _ hold, h3 _, hb.frame _, fun _ => ⟨ok_one hr rfl (okWide_bool_mk hB _), _, _, ([] ++ p) ++ [], ⟨[] ++ p, [], trodAll_append (h2 _ (fun _ _ => rfl)) (h1 _ _ _), h3 _, rfl, ?_, ?_⟩, ?_⟩⟩
  · intro b off hp
    have hp' : MemPlace.cell b off ∈ p ++ ([] : List MemPlace) := by simpa using hp
    rw [hb.frozen (p := ⟨b, off, none⟩) (hlt _ hp')]
    exact hfz b off hp'
  · intro ha
    have := hnd ha
    simpa using this
  · intro x hp _
    simpa using hp

theorem okWide_agg {tV tL tM tE tD tS tI tB : TypeId} (T : VT P tV tL tM tE tD tS tI tB) {r : Reach} {base : Nat} {v : Value} (h : Value.okWide P W r base tV v) : ∃ cs : Array Value, v = .agg cs ∧ cs.size = P.cellsOf tV := by
  obtain ⟨fs, hu, _⟩ := T.v
  unfold Value.okWide at h
  rw [hu] at h
  obtain ⟨cs, h1, h2, _⟩ := h
  exact ⟨cs, h1, h2⟩

theorem okWide_str {t : TypeId} (T : ∃ fs, P.underlying t = some (.struct fs)) {r : Reach} {base : Nat} {v : Value} (h : Value.okWide P W r base t v) : ∃ (fs : Array Field) (_ : P.underlying t = some (.struct fs)) (cs : Array Value), v = .agg cs ∧ cs.size = P.cellsOf t := by
  obtain ⟨fs, hu⟩ := T
  unfold Value.okWide at h
  rw [hu] at h
  obtain ⟨cs, h1, h2, _⟩ := h
  exact ⟨fs, hu, cs, h1, h2⟩

theorem weights_le {ts : List TypeId} {ds : List (DataW H)} (h : (DataW.weightsEach P ts ds).all (· ≤ reachBytes) = true) {j : Nat} {t : TypeId} {d : DataW H} (ht : ts[j]? = some t) (hd : ds[j]? = some d) : ∀ k ∈ d.weights P t, k ≤ reachBytes := by
  intro k hk
  have := List.all_eq_true.1 h k (DataW.weights_mem_each ht hd k hk)
  simpa using this

end
end Go.Sy
/- Closed facts of the program that every row's closing asks. -/
namespace Go.Proofs.YtadnijcgohflhaaDoor.Row
open Go Go.Proofs Go.Sy Go.ChangeShapes Go.WideShapes Go.ChangeAt Go.RowKit
set_option maxRecDepth 100000

theorem own : ownKnob Tryd.prog.godebug = none := by kernel_rfl
theorem laidOut : laidOutB Tryd.prog = true := by kernel_rfl
theorem rowed : mapsRowed Tryd.prog = true := by kernel_rfl
theorem full : ∀ t e, t < Tryd.prog.types.size → Tryd.prog.underlying t = some (.slice e) → 0 < Tryd.prog.cellsOf e := slices_full_of Tryd.prog (by kernel_rfl)
theorem vt : VT Tryd.prog 27 24 25 125 23 9 3 4 where
  v := ⟨_, Tryd.underlying27, rfl⟩
  l := by kernel_rfl
  m := by kernel_rfl
  e := ⟨_, Tryd.underlying125, rfl⟩
  d := ⟨_, Tryd.underlying23, rfl⟩
  s := by kernel_rfl
  i := by kernel_rfl
  b := by kernel_rfl
  cV := by kernel_rfl
  cE := by kernel_rfl
  cD := by kernel_rfl
  cS := by kernel_rfl
  cI := by kernel_rfl
  cB := by kernel_rfl
  cL := by kernel_rfl
  cM := by kernel_rfl
  bV := of_decide_eq_true (by kernel_rfl)
  bE := of_decide_eq_true (by kernel_rfl)
end Go.Proofs.YtadnijcgohflhaaDoor.Row
