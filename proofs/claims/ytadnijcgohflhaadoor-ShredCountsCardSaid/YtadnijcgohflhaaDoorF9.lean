import Derived.Test.YtadnijcgohflhaaDoorF8
import Derived.Test.YtadnijcgohflhaaDoorVb
namespace Go.Sy
open Go.Proofs

/-- A load of one cell that the wider class knows. -/
theorem ow_ld1 {cf : Cf} {Q : Exit → Act → World → Prop} {W : (Nat → Addr) → World → Prop} {σ : Snap} {env : Env} {hp : HP} {A : List AE} {nh : Nat} {it : Item} {rest : List Item} {d t : Nat} {x : Operand} {T : List (Nat × TI)} (hT : TTok cf.P T) {ti : TI} {g off : Nat} (c : AT)
    (hq : (match it.tag with | .quiet => true | _ => false) = true) (hop : it.o.op = .load t x) (hd : it.o.dst = some d) (hg : guardVal it.guard env = some true) (hN : Nat.blt d cf.N = true)
    (hx : evalO env x = some (.a (.v (.pointer (some ⟨g, off, none⟩))))) (ht : tget T t = some ti) (hag : ti.agg = false)
    (hv : ∀ β w, W β w → w.cell? ⟨g, off, none⟩ = some c.val) (hc : c.lt 0) (k : OW cf rest Q W σ ((d, .a c) :: env) hp A nh) : OW cf (it :: rest) Q W σ env hp A nh := by
  refine ow_val (.a c) hd hg hN (AT.lt_mono (Nat.zero_le _) hc) (fun _ a β ha => ?_) k
  cases htag : it.tag with
  | quiet =>
    intro w hw
    obtain ⟨inf, d', z, hs⟩ := tiOf_spec (hT _ _ ht)
    have hcell := hv β w hw
    have hx' : a.eval x = .pointer (some ⟨g, off, none⟩) := evalO_eval ha hx
    have hload : (load ⟨g, off, none⟩).run cf.P w = .ok c.val w := by rw [run_load, hcell]
    simp only [execOp, hop, Instr.loadAt, hx', Instr.sureAddr, loadVar, Sem.run_bind, Sem.run_pure, Result.andThen_ok, run_isAgg hs.und, hs.agg, hag, Bool.false_eq_true, if_false, hload]
    simp only [SV.den, AT.den_val hc β]
  | _ => rw [htag] at hq; cases hq

/-! ### The shredder -/

def sE (gs : Nat) (ao : Option Addr) (n cap : Nat) (now gap : Int) : AE := ⟨some ⟨gs, 0, none⟩, 1, 1, 118, 3, [.slice ao n cap, .int .i64 now, .int .i64 gap]⟩
def rE (ao : Option Addr) (n cap : Nat) (l : List GRec) : AE := ⟨ao, n, cap, 36, 11, recXs l⟩
/-- The shredder and its records. -/
def shA (gs : Nat) (ao : Option Addr) (cap : Nat) (now gap : Int) (l : List GRec) : List AE := [sE gs ao l.length cap now gap, rE ao l.length cap l]

set_option maxRecDepth 100000 in
set_option maxHeartbeats 1000000 in
theorem number_c (σ : Snap) (gs : Nat) (ao : Option Addr) (n cap : Nat) (now gap : Int) (h1 : 0 ≤ now) (h2 : now ≤ 1125899906842624) (h3 : 0 ≤ gap) (h4 : gap ≤ 1000) :
    FnS Tryd.prog 120 [.a (.v (.pointer (some ⟨gs, 0, none⟩)))] σ [sE gs ao n cap now gap] (fun v _ A' => v = .int .i64 (now + gap) ∧ A' = [sE gs ao n cap (now + gap) gap]) := by
  refine enter_f Tryd.func120 rfl rfl (by (repeat' (first | exact trivial | exact Nat.le_of_ble_eq_true rfl | exact vCells_lt _ _ _ _ _ _ | exact decCells_lt _ _ | refine AllLt.of ?_ | refine SV.lt_tup ?_ | exact SV.lt_fn0 | exact AT.lt_fn0 | exact RepV.clo (by assumption) | constructor))) fun w => ?_
  (repeat (first | refine cj_seq ?_ | (refine cj_region ?_; refine oj_run TT rfl ?_) | refine oj_then ?_ | refine oj_nil ?_ | refine cj_if_t rfl ?_ | refine cj_if_f rfl ?_ | refine cj_skip ?_ | refine cj_block ?_ | refine cj_exit ?_ | refine cj_ret ?_ | refine nj_then ?_ | refine nj_then_exit ?_ | refine nj_then_ret ?_ | refine nj_block ?_ | refine nj_block_ret ?_ | refine nj_block_out ?_ | refine nj_block_on rfl ?_ | (refine oj_band rfl rfl rfl rfl rfl rfl ?_; refine oj_run TT rfl ?_) | (refine oj_bor rfl rfl rfl rfl rfl rfl ?_; refine oj_run TT rfl ?_) | (refine oj_bandnot rfl rfl rfl rfl rfl rfl ?_; refine oj_run TT rfl ?_) | (refine oj_conv TT _ rfl rfl rfl rfl rfl rfl rfl rfl rfl ?_; refine oj_run TT rfl ?_) | (refine oj_bshl rfl rfl rfl rfl rfl rfl (by decide) ?_; refine oj_run TT rfl ?_) | (refine oj_bshr rfl rfl rfl rfl rfl rfl (by decide) ?_; refine oj_run TT rfl ?_) | (refine oj_slnil TT rfl rfl rfl rfl rfl rfl rfl rfl ?_; refine oj_run TT rfl ?_) | (refine oj_add rfl rfl rfl rfl rfl rfl (by omega) ?_; refine oj_run TT rfl ?_) | (refine oj_minus rfl rfl rfl rfl rfl rfl (by omega) ?_; refine oj_run TT rfl ?_)))
  refine cj_draw [(0,.pure),(1,.pure),(2,.pure),(3,.quiet),(4,.pure),(5,.pure),(6,.pure),(7,.quiet),(8,.pure),(9,.pure),(10,.pure),(11,.sink)] mixed (by kernel_rfl) (oj_run TT rfl ?_)
  refine oj_ldA 0 (c := .v (.int .i64 now)) TT rfl rfl rfl rfl rfl rfl rfl rfl rfl rfl rfl trivial (oj_run TT rfl ?_)
  refine oj_ldA 0 (c := .v (.int .i64 gap)) TT rfl rfl rfl rfl rfl rfl rfl rfl rfl rfl rfl trivial (oj_run TT rfl ?_)
  refine oj_add rfl rfl rfl rfl rfl rfl (by omega) (oj_run TT rfl ?_)
  refine oj_stA 0 (A' := [sE gs ao n cap (now + gap) gap]) TT rfl rfl rfl rfl rfl rfl rfl rfl rfl rfl (by show 1 < 1 * 3; omega) trivial rfl rfl (oj_run TT rfl ?_)
  (repeat (first | refine cj_seq ?_ | (refine cj_region ?_; refine oj_run TT rfl ?_) | refine oj_then ?_ | refine oj_nil ?_ | refine cj_if_t rfl ?_ | refine cj_if_f rfl ?_ | refine cj_skip ?_ | refine cj_block ?_ | refine cj_exit ?_ | refine cj_ret ?_ | refine nj_then ?_ | refine nj_then_exit ?_ | refine nj_then_ret ?_ | refine nj_block ?_ | refine nj_block_ret ?_ | refine nj_block_out ?_ | refine nj_block_on rfl ?_ | (refine oj_band rfl rfl rfl rfl rfl rfl ?_; refine oj_run TT rfl ?_) | (refine oj_bor rfl rfl rfl rfl rfl rfl ?_; refine oj_run TT rfl ?_) | (refine oj_bandnot rfl rfl rfl rfl rfl rfl ?_; refine oj_run TT rfl ?_) | (refine oj_conv TT _ rfl rfl rfl rfl rfl rfl rfl rfl rfl ?_; refine oj_run TT rfl ?_) | (refine oj_bshl rfl rfl rfl rfl rfl rfl (by decide) ?_; refine oj_run TT rfl ?_) | (refine oj_bshr rfl rfl rfl rfl rfl rfl (by decide) ?_; refine oj_run TT rfl ?_) | (refine oj_slnil TT rfl rfl rfl rfl rfl rfl rfl rfl ?_; refine oj_run TT rfl ?_) | (refine oj_add rfl rfl rfl rfl rfl rfl (by omega) ?_; refine oj_run TT rfl ?_) | (refine oj_minus rfl rfl rfl rfl rfl rfl (by omega) ?_; refine oj_run TT rfl ?_)))
  refine oj_ldA 0 (c := .v (.int .i64 (now + gap))) TT rfl rfl rfl rfl rfl rfl rfl rfl rfl rfl rfl trivial (oj_run TT rfl ?_)
  (repeat (first | refine cj_seq ?_ | (refine cj_region ?_; refine oj_run TT rfl ?_) | refine oj_then ?_ | refine oj_nil ?_ | refine cj_if_t rfl ?_ | refine cj_if_f rfl ?_ | refine cj_skip ?_ | refine cj_block ?_ | refine cj_exit ?_ | refine cj_ret ?_ | refine nj_then ?_ | refine nj_then_exit ?_ | refine nj_then_ret ?_ | refine nj_block ?_ | refine nj_block_ret ?_ | refine nj_block_out ?_ | refine nj_block_on rfl ?_ | (refine oj_band rfl rfl rfl rfl rfl rfl ?_; refine oj_run TT rfl ?_) | (refine oj_bor rfl rfl rfl rfl rfl rfl ?_; refine oj_run TT rfl ?_) | (refine oj_bandnot rfl rfl rfl rfl rfl rfl ?_; refine oj_run TT rfl ?_) | (refine oj_conv TT _ rfl rfl rfl rfl rfl rfl rfl rfl rfl ?_; refine oj_run TT rfl ?_) | (refine oj_bshl rfl rfl rfl rfl rfl rfl (by decide) ?_; refine oj_run TT rfl ?_) | (refine oj_bshr rfl rfl rfl rfl rfl rfl (by decide) ?_; refine oj_run TT rfl ?_) | (refine oj_slnil TT rfl rfl rfl rfl rfl rfl rfl rfl ?_; refine oj_run TT rfl ?_) | (refine oj_add rfl rfl rfl rfl rfl rfl (by omega) ?_; refine oj_run TT rfl ?_) | (refine oj_minus rfl rfl rfl rfl rfl rfl (by omega) ?_; refine oj_run TT rfl ?_)))
  refine nj_fret TT rfl fun β w' _ _ => ?_
  exact ⟨rfl, rfl⟩

def ord71_1 : List (Nat × Tag) := [(0,.pure),(1,.quiet),(2,.pure),(3,.quiet),(4,.pure),(5,.quiet),(6,.pure),(7,.quiet),(8,.pure),(9,.keep),(10,.pure),(11,.keep),(12,.pure),(13,.keep),(14,.pure),(15,.keep)]
def ord71_15 : List (Nat × Tag) := [(0,.pure),(1,.pure),(2,.pure),(3,.quiet),(4,.pure),(5,.pure),(6,.keep),(7,.pure),(8,.pure),(9,.sink)]

/-- Where the loops are: how far, where the records lie, the last number, and what was laid. -/
structure ShS where
  σ : Snap
  k : Nat
  ao : Option Addr
  cap : Nat
  now : Int
  P : List GRec

theorem weights_drop {l : List GVal} {i : Nat} {g : GVal} (h : l[i]? = some g) : GVal.weights (l.drop i) = g.weight + GVal.weights (l.drop (i + 1)) := by
  have hlt := (List.getElem?_eq_some_iff.1 h).1
  rw [List.drop_eq_getElem_cons hlt, GVal.weights, (List.getElem?_eq_some_iff.1 h).2]

theorem recXs_push (L : List GRec) (x : GRec) : recXs L ++ (recCells x).map AT.val = recXs (L ++ [x]) := by
  rw [recXs_append]
  simp [recXs, recRows]

def rec0 (lv : Int) (nm : Bool) (name : ByteArray) : GRec := ⟨0, 0, lv, 0, nm, name, false, dec0, emptyS⟩

set_option maxRecDepth 100000 in
set_option maxHeartbeats 4000000 in
theorem shredder_c (g : GVal) : ∀ (σ : Snap) (r : List AT) (x : GRec) (gs : Nat) (ao : Option Addr) (cap : Nat) (now gap : Int) (L : List GRec), RepV σ g r → 0 ≤ now → now + 2000 * g.weight ≤ 1125899906842624 → 0 ≤ gap → gap ≤ 1000 →
    L.length + g.weight ≤ 1000000 → 0 ≤ x.lv → x.lv + g.weight ≤ 1099511627776 → L.length ≤ cap →
    FnS Tryd.prog 71 [.a (.v (.pointer (some ⟨gs, 0, none⟩))), .agg r, .agg (recCells x)] σ (shA gs ao cap now gap L) (fun v _ A' => v = .tuple #[] ∧ ∃ ao' cap', (L ++ (shredV gap g x.lv x.nm x.name now).1).length ≤ cap' ∧
      A' = shA gs ao' cap' (shredV gap g x.lv x.nm x.name now).2 gap (L ++ (shredV gap g x.lv x.nm x.name now).1)) := by
  induction g using GVal.byWeight with | _ g ih => ?_
  intro σ r x gs ao cap now gap L hr hn1 hn2 hg1 hg2 hnw hlv1 hlv2 hncap
  obtain ⟨la, lc, lrows, ma, mc, vrows, rfl, V⟩ := hr.open
  have hwg := g.weight_eq
  have hwl := weights_len g.l
  have hwv := weights_len g.vs
  have hkv := V.kv
  have hsl := shredL_now g.l (x.lv + 1) (now + gap) hg1 hg2
  have hsm := shredM_now (gap := gap) g.vs g.ks (x.lv + 1) (shredL gap g.l (x.lv + 1) (now + gap)).2 hg1 hg2
  have hll := (shredL_len gap g.l (x.lv + 1) (now + gap)).1
  have hlm := (shredM_len gap g.vs g.ks (x.lv + 1) (shredL gap g.l (x.lv + 1) (now + gap)).2).1
  rw [shredV_eq]
  refine enter_f Tryd.func71 rfl rfl (by (repeat' (first | exact trivial | exact Nat.le_of_ble_eq_true rfl | exact vCells_lt _ _ _ _ _ _ | exact decCells_lt _ _ | refine AllLt.of ?_ | refine SV.lt_tup ?_ | exact SV.lt_fn0 | exact AT.lt_fn0 | exact RepV.clo (by assumption) | constructor))) fun w => ?_
  (repeat (first | refine cj_seq ?_ | (refine cj_region ?_; refine oj_run TT rfl ?_) | refine oj_then ?_ | refine oj_nil ?_ | refine cj_if_t rfl ?_ | refine cj_if_f rfl ?_ | refine cj_skip ?_ | refine cj_block ?_ | refine cj_exit ?_ | refine cj_ret ?_ | refine nj_then ?_ | refine nj_then_exit ?_ | refine nj_then_ret ?_ | refine nj_block ?_ | refine nj_block_ret ?_ | refine nj_block_out ?_ | refine nj_block_on rfl ?_ | (refine oj_band rfl rfl rfl rfl rfl rfl ?_; refine oj_run TT rfl ?_) | (refine oj_bor rfl rfl rfl rfl rfl rfl ?_; refine oj_run TT rfl ?_) | (refine oj_bandnot rfl rfl rfl rfl rfl rfl ?_; refine oj_run TT rfl ?_) | (refine oj_conv TT _ rfl rfl rfl rfl rfl rfl rfl rfl rfl ?_; refine oj_run TT rfl ?_) | (refine oj_bshl rfl rfl rfl rfl rfl rfl (by decide) ?_; refine oj_run TT rfl ?_) | (refine oj_bshr rfl rfl rfl rfl rfl rfl (by decide) ?_; refine oj_run TT rfl ?_) | (refine oj_slnil TT rfl rfl rfl rfl rfl rfl rfl rfl ?_; refine oj_run TT rfl ?_) | (refine oj_add rfl rfl rfl rfl rfl rfl (by omega) ?_; refine oj_run TT rfl ?_) | (refine oj_minus rfl rfl rfl rfl rfl rfl (by omega) ?_; refine oj_run TT rfl ?_)))
  refine cj_drawW ord71_1 (fun β w => StW _ σ [(0, .loc 27, vCells g la lc ma mc)] _ β w) (fun β w h => h.sub (subH_of ⟨rfl, trivial⟩)) mixed (by kernel_rfl) ?_
  refine ow_pure TT rfl rfl rfl rfl rfl rfl ?_
  refine ow_load TT [(0, .loc 27, vCells g la lc ma mc)] _ (subH_of ⟨rfl, trivial⟩) (fun _ _ h => h) rfl rfl rfl rfl rfl ?_
  refine ow_pure TT rfl rfl rfl rfl rfl rfl ?_
  refine ow_load TT [(0, .loc 27, vCells g la lc ma mc)] _ (subH_of ⟨rfl, trivial⟩) (fun _ _ h => h) rfl rfl rfl rfl rfl ?_
  refine ow_pure TT rfl rfl rfl rfl rfl rfl ?_
  refine ow_load TT [(0, .loc 27, vCells g la lc ma mc)] _ (subH_of ⟨rfl, trivial⟩) (fun _ _ h => h) rfl rfl rfl rfl rfl ?_
  refine ow_pure TT rfl rfl rfl rfl rfl rfl ?_
  refine ow_load TT [(0, .loc 27, vCells g la lc ma mc)] _ (subH_of ⟨rfl, trivial⟩) (fun _ _ h => h) rfl rfl rfl rfl rfl ?_
  refine ow_pure TT rfl rfl rfl rfl rfl rfl ?_
  refine ow_put TT rfl rfl rfl rfl (fun _ _ h => h.sub (subH_of ⟨rfl, trivial⟩)) ?_
  refine ow_pure TT rfl rfl rfl rfl rfl rfl ?_
  refine ow_put TT rfl rfl rfl rfl (fun _ _ h => h.sub (subH_of ⟨rfl, trivial⟩)) ?_
  refine ow_pure TT rfl rfl rfl rfl rfl rfl ?_
  refine ow_put TT rfl rfl rfl rfl (fun _ _ h => h.sub (subH_of ⟨rfl, trivial⟩)) ?_
  refine ow_pure TT rfl rfl rfl rfl rfl rfl ?_
  refine ow_put TT rfl rfl rfl rfl (fun _ _ h => h.sub (subH_of ⟨rfl, trivial⟩)) ?_
  refine ow_end rfl (fun _ _ h => h.sub (subH_of ⟨rfl, trivial⟩)) (oj_nil ?_)
  (repeat (first | refine cj_seq ?_ | (refine cj_region ?_; refine oj_run TT rfl ?_) | refine oj_then ?_ | refine oj_nil ?_ | refine cj_if_t rfl ?_ | refine cj_if_f rfl ?_ | refine cj_skip ?_ | refine cj_block ?_ | refine cj_exit ?_ | refine cj_ret ?_ | refine nj_then ?_ | refine nj_then_exit ?_ | refine nj_then_ret ?_ | refine nj_block ?_ | refine nj_block_ret ?_ | refine nj_block_out ?_ | refine nj_block_on rfl ?_ | (refine oj_band rfl rfl rfl rfl rfl rfl ?_; refine oj_run TT rfl ?_) | (refine oj_bor rfl rfl rfl rfl rfl rfl ?_; refine oj_run TT rfl ?_) | (refine oj_bandnot rfl rfl rfl rfl rfl rfl ?_; refine oj_run TT rfl ?_) | (refine oj_conv TT _ rfl rfl rfl rfl rfl rfl rfl rfl rfl ?_; refine oj_run TT rfl ?_) | (refine oj_bshl rfl rfl rfl rfl rfl rfl (by decide) ?_; refine oj_run TT rfl ?_) | (refine oj_bshr rfl rfl rfl rfl rfl rfl (by decide) ?_; refine oj_run TT rfl ?_) | (refine oj_slnil TT rfl rfl rfl rfl rfl rfl rfl rfl ?_; refine oj_run TT rfl ?_) | (refine oj_add rfl rfl rfl rfl rfl rfl (by omega) ?_; refine oj_run TT rfl ?_) | (refine oj_minus rfl rfl rfl rfl rfl rfl (by omega) ?_; refine oj_run TT rfl ?_)))
  refine oj_callF [0, 1] (A0 := [sE gs ao L.length cap now gap]) (Ar := [rE ao L.length cap L]) rfl rfl rfl rfl rfl rfl rfl Tryd.call120 (by (repeat' (first | exact trivial | exact Nat.le_of_ble_eq_true rfl | exact vCells_lt _ _ _ _ _ _ | exact decCells_lt _ _ | refine AllLt.of ?_ | refine SV.lt_tup ?_ | exact SV.lt_fn0 | exact AT.lt_fn0 | exact RepV.clo (by assumption) | constructor))) (number_c σ gs ao L.length cap now gap hn1 (by omega) hg1 hg2) fun v σ1 A1 hle1 ⟨hv, hA⟩ => ⟨.a (.v (.int .i64 (now + gap))), trivial, hv.symm, ?_⟩
  subst hA
  refine oj_run TT rfl ?_
  (repeat (first | refine cj_seq ?_ | (refine cj_region ?_; refine oj_run TT rfl ?_) | refine oj_then ?_ | refine oj_nil ?_ | refine cj_if_t rfl ?_ | refine cj_if_f rfl ?_ | refine cj_skip ?_ | refine cj_block ?_ | refine cj_exit ?_ | refine cj_ret ?_ | refine nj_then ?_ | refine nj_then_exit ?_ | refine nj_then_ret ?_ | refine nj_block ?_ | refine nj_block_ret ?_ | refine nj_block_out ?_ | refine nj_block_on rfl ?_ | (refine oj_band rfl rfl rfl rfl rfl rfl ?_; refine oj_run TT rfl ?_) | (refine oj_bor rfl rfl rfl rfl rfl rfl ?_; refine oj_run TT rfl ?_) | (refine oj_bandnot rfl rfl rfl rfl rfl rfl ?_; refine oj_run TT rfl ?_) | (refine oj_conv TT _ rfl rfl rfl rfl rfl rfl rfl rfl rfl ?_; refine oj_run TT rfl ?_) | (refine oj_bshl rfl rfl rfl rfl rfl rfl (by decide) ?_; refine oj_run TT rfl ?_) | (refine oj_bshr rfl rfl rfl rfl rfl rfl (by decide) ?_; refine oj_run TT rfl ?_) | (refine oj_slnil TT rfl rfl rfl rfl rfl rfl rfl rfl ?_; refine oj_run TT rfl ?_) | (refine oj_add rfl rfl rfl rfl rfl rfl (by omega) ?_; refine oj_run TT rfl ?_) | (refine oj_minus rfl rfl rfl rfl rfl rfl (by omega) ?_; refine oj_run TT rfl ?_)))
  refine oj_ldA 0 (c := .v (.slice ao L.length cap)) TT rfl rfl rfl rfl rfl rfl rfl rfl rfl rfl rfl trivial (oj_run TT rfl ?_)
  (repeat (first | refine cj_seq ?_ | (refine cj_region ?_; refine oj_run TT rfl ?_) | refine oj_then ?_ | refine oj_nil ?_ | refine cj_if_t rfl ?_ | refine cj_if_f rfl ?_ | refine cj_skip ?_ | refine cj_block ?_ | refine cj_exit ?_ | refine cj_ret ?_ | refine nj_then ?_ | refine nj_then_exit ?_ | refine nj_then_ret ?_ | refine nj_block ?_ | refine nj_block_ret ?_ | refine nj_block_out ?_ | refine nj_block_on rfl ?_ | (refine oj_band rfl rfl rfl rfl rfl rfl ?_; refine oj_run TT rfl ?_) | (refine oj_bor rfl rfl rfl rfl rfl rfl ?_; refine oj_run TT rfl ?_) | (refine oj_bandnot rfl rfl rfl rfl rfl rfl ?_; refine oj_run TT rfl ?_) | (refine oj_conv TT _ rfl rfl rfl rfl rfl rfl rfl rfl rfl ?_; refine oj_run TT rfl ?_) | (refine oj_bshl rfl rfl rfl rfl rfl rfl (by decide) ?_; refine oj_run TT rfl ?_) | (refine oj_bshr rfl rfl rfl rfl rfl rfl (by decide) ?_; refine oj_run TT rfl ?_) | (refine oj_slnil TT rfl rfl rfl rfl rfl rfl rfl rfl ?_; refine oj_run TT rfl ?_) | (refine oj_add rfl rfl rfl rfl rfl rfl (by omega) ?_; refine oj_run TT rfl ?_) | (refine oj_minus rfl rfl rfl rfl rfl rfl (by omega) ?_; refine oj_run TT rfl ?_)))
  let x1 : GRec := ⟨now + gap, x.en, x.lv, g.kind, x.nm, x.name, g.b, g.n, g.s⟩
  refine cj_sub (env' := [(0, .a (.v (.pointer (some ⟨gs, 0, none⟩)))), (4, .a (.p 0 0)), (5, .a (.p 1 0)), (6, .a (.v (.int .i64 L.length)))]) (hp' := [(0, .loc 27, vCells g la lc ma mc), (1, .loc 36, recCells x1)]) (subE_of (by (repeat (first | exact trivial | refine And.intro rfl ?_)))) (subH_of (by (repeat (first | exact trivial | refine And.intro rfl ?_)))) ?_
  refine cj_draw [(0,.pure),(1,.pure),(2,.pure),(3,.pure),(4,.quiet),(5,.quiet),(6,.keep),(7,.sink),(8,.pure),(9,.pure),(10,.sink)] mixed (by kernel_rfl) (oj_run TT rfl ?_)
  refine oj_ldA 0 (c := .v (.slice ao L.length cap)) TT rfl rfl rfl rfl rfl rfl rfl rfl rfl rfl rfl trivial (oj_run TT rfl ?_)
  refine oj_append_lit TT 1 rfl rfl rfl rfl rfl rfl rfl rfl rfl rfl rfl rfl rfl rfl rfl rfl rfl rfl (by (repeat' (first | exact trivial | exact Nat.le_of_ble_eq_true rfl | exact vCells_lt _ _ _ _ _ _ | exact decCells_lt _ _ | refine AllLt.of ?_ | refine SV.lt_tup ?_ | exact SV.lt_fn0 | exact AT.lt_fn0 | exact RepV.clo (by assumption) | constructor))) rfl (by omega) (by show (L.length + 1) * 112 ≤ _; omega) fun ao1 cap1 hcap1 => oj_run TT rfl ?_
  refine oj_stA 0 (A' := [sE gs ao1 (L.length + 1) cap1 (now + gap) gap, ⟨ao1, L.length + 1, cap1, 36, 11, recXs L ++ (recCells x1).map AT.val⟩]) TT rfl rfl rfl rfl rfl rfl rfl rfl rfl rfl (by show 0 < 1 * 3; omega) trivial rfl rfl (oj_run TT rfl ?_)
  rw [recXs_push]
  (repeat (first | refine cj_seq ?_ | (refine cj_region ?_; refine oj_run TT rfl ?_) | refine oj_then ?_ | refine oj_nil ?_ | refine cj_if_t rfl ?_ | refine cj_if_f rfl ?_ | refine cj_skip ?_ | refine cj_block ?_ | refine cj_exit ?_ | refine cj_ret ?_ | refine nj_then ?_ | refine nj_then_exit ?_ | refine nj_then_ret ?_ | refine nj_block ?_ | refine nj_block_ret ?_ | refine nj_block_out ?_ | refine nj_block_on rfl ?_ | (refine oj_band rfl rfl rfl rfl rfl rfl ?_; refine oj_run TT rfl ?_) | (refine oj_bor rfl rfl rfl rfl rfl rfl ?_; refine oj_run TT rfl ?_) | (refine oj_bandnot rfl rfl rfl rfl rfl rfl ?_; refine oj_run TT rfl ?_) | (refine oj_conv TT _ rfl rfl rfl rfl rfl rfl rfl rfl rfl ?_; refine oj_run TT rfl ?_) | (refine oj_bshl rfl rfl rfl rfl rfl rfl (by decide) ?_; refine oj_run TT rfl ?_) | (refine oj_bshr rfl rfl rfl rfl rfl rfl (by decide) ?_; refine oj_run TT rfl ?_) | (refine oj_slnil TT rfl rfl rfl rfl rfl rfl rfl rfl ?_; refine oj_run TT rfl ?_) | (refine oj_add rfl rfl rfl rfl rfl rfl (by omega) ?_; refine oj_run TT rfl ?_) | (refine oj_minus rfl rfl rfl rfl rfl rfl (by omega) ?_; refine oj_run TT rfl ?_)))
  refine cj_cutB (fun (s : ShS) => s.σ) (fun _ => [(0, .a (.v (.pointer (some ⟨gs, 0, none⟩)))), (4, .a (.p 0 0)), (5, .a (.p 1 0)), (6, .a (.v (.int .i64 L.length)))])
    (fun _ => [(0, .loc 27, vCells g la lc ma mc), (1, .loc 36, recCells x1)]) (fun s => shA gs s.ao s.cap s.now gap (L ++ x1 :: s.P)) 2
    (fun s => σ1.le s.σ ∧ s.P = (shredL gap g.l (x.lv + 1) (now + gap)).1 ∧ s.now = (shredL gap g.l (x.lv + 1) (now + gap)).2 ∧ (L ++ x1 :: s.P).length ≤ s.cap) ?_ (fun s ⟨hs, hsP, hsn, hscap⟩ => ?_)
  · refine cj_loop (fun (s : ShS) => s.σ) (fun s => [(0, .a (.v (.pointer (some ⟨gs, 0, none⟩)))), (4, .a (.p 0 0)), (5, .a (.p 1 0)), (6, .a (.v (.int .i64 L.length))), (42, .a (.v (.slice la g.l.length lc))), (43, .a (.v (.int .i64 g.l.length))), (44, .a (.v (.int .i64 s.k)))])
      (fun _ => [(0, .loc 27, vCells g la lc ma mc), (1, .loc 36, recCells x1)]) (fun s => shA gs s.ao s.cap s.now gap (L ++ x1 :: s.P)) 2
      (fun s => s.k ≤ g.l.length ∧ σ1.le s.σ ∧ s.P ++ (shredL gap (g.l.drop s.k) (x.lv + 1) s.now).1 = (shredL gap g.l (x.lv + 1) (now + gap)).1 ∧ (shredL gap (g.l.drop s.k) (x.lv + 1) s.now).2 = (shredL gap g.l (x.lv + 1) (now + gap)).2 ∧
        0 ≤ s.now ∧ s.now + 2000 * GVal.weights (g.l.drop s.k) ≤ now + gap + 2000 * GVal.weights g.l ∧ s.P.length + GVal.weights (g.l.drop s.k) ≤ GVal.weights g.l ∧ (L ++ x1 :: s.P).length ≤ s.cap)
      (fun s => g.l.length - s.k) ⟨σ1, 0, ao1, cap1, now + gap, []⟩ ⟨Nat.zero_le _, Snap.le_refl _, rfl, rfl, by dsimp only; omega, by dsimp only; rw [List.drop_zero]; omega, by dsimp only; rw [List.drop_zero]; simp, by dsimp only; simp; omega⟩
      rfl (by (repeat (first | exact trivial | refine And.intro rfl ?_))) (by (repeat (first | exact trivial | refine And.intro rfl ?_))) (by unfold shA; simp only [List.length_append]; rfl) (by (repeat' (first | exact trivial | exact Nat.le_of_ble_eq_true rfl | exact vCells_lt _ _ _ _ _ _ | exact decCells_lt _ _ | refine AllLt.of ?_ | refine SV.lt_tup ?_ | exact SV.lt_fn0 | exact AT.lt_fn0 | exact RepV.clo (by assumption) | constructor))) (by (repeat' (first | exact trivial | exact Nat.le_of_ble_eq_true rfl | exact vCells_lt _ _ _ _ _ _ | exact decCells_lt _ _ | refine AllLt.of ?_ | refine SV.lt_tup ?_ | exact SV.lt_fn0 | exact AT.lt_fn0 | exact RepV.clo (by assumption) | constructor))) fun ⟨s, k, ao, cap, nw, P⟩ ⟨hk, hs, hP1, hP2, hnw1, hnw2, hPw, hcp⟩ => ?_
    dsimp only at hk hs hP1 hP2 hnw1 hnw2 hPw hcp ⊢
    (repeat (first | refine cj_seq ?_ | (refine cj_region ?_; refine oj_run TT rfl ?_) | refine oj_then ?_ | refine oj_nil ?_ | refine cj_if_t rfl ?_ | refine cj_if_f rfl ?_ | refine cj_skip ?_ | refine cj_block ?_ | refine cj_exit ?_ | refine cj_ret ?_ | refine nj_then ?_ | refine nj_then_exit ?_ | refine nj_then_ret ?_ | refine nj_block ?_ | refine nj_block_ret ?_ | refine nj_block_out ?_ | refine nj_block_on rfl ?_ | (refine oj_band rfl rfl rfl rfl rfl rfl ?_; refine oj_run TT rfl ?_) | (refine oj_bor rfl rfl rfl rfl rfl rfl ?_; refine oj_run TT rfl ?_) | (refine oj_bandnot rfl rfl rfl rfl rfl rfl ?_; refine oj_run TT rfl ?_) | (refine oj_conv TT _ rfl rfl rfl rfl rfl rfl rfl rfl rfl ?_; refine oj_run TT rfl ?_) | (refine oj_bshl rfl rfl rfl rfl rfl rfl (by decide) ?_; refine oj_run TT rfl ?_) | (refine oj_bshr rfl rfl rfl rfl rfl rfl (by decide) ?_; refine oj_run TT rfl ?_) | (refine oj_slnil TT rfl rfl rfl rfl rfl rfl rfl rfl ?_; refine oj_run TT rfl ?_) | (refine oj_add rfl rfl rfl rfl rfl rfl (by omega) ?_; refine oj_run TT rfl ?_) | (refine oj_minus rfl rfl rfl rfl rfl rfl (by omega) ?_; refine oj_run TT rfl ?_)))
    refine cj_if rfl (fun h => ?_) (fun h => ?_)
    · have hkl : k < g.l.length := by simpa using h
      obtain ⟨rr, hr1, hr2⟩ := (V.l.mono (Snap.le_trans hle1 hs)).get (List.getElem?_eq_getElem hkl)
      obtain ⟨la', lc', lrows', ma', mc', vrows', rfl, V'⟩ := hr2.open
      have hwx := weight_l (List.getElem_mem hkl)
      have hwd := weights_drop (List.getElem?_eq_getElem hkl)
      rw [List.drop_eq_getElem_cons hkl, shredL] at hP1 hP2
      have hnx := shredV_now (gap := gap) g.l[k] (x.lv + 1) false emptyS nw hg1 hg2
      have hlx := (shredV_len gap g.l[k] (x.lv + 1) false emptyS nw).1
      have hlen : (L ++ x1 :: P).length = L.length + 1 + P.length := by simp; omega
      (repeat (first | refine cj_seq ?_ | (refine cj_region ?_; refine oj_run TT rfl ?_) | refine oj_then ?_ | refine oj_nil ?_ | refine cj_if_t rfl ?_ | refine cj_if_f rfl ?_ | refine cj_skip ?_ | refine cj_block ?_ | refine cj_exit ?_ | refine cj_ret ?_ | refine nj_then ?_ | refine nj_then_exit ?_ | refine nj_then_ret ?_ | refine nj_block ?_ | refine nj_block_ret ?_ | refine nj_block_out ?_ | refine nj_block_on rfl ?_ | (refine oj_band rfl rfl rfl rfl rfl rfl ?_; refine oj_run TT rfl ?_) | (refine oj_bor rfl rfl rfl rfl rfl rfl ?_; refine oj_run TT rfl ?_) | (refine oj_bandnot rfl rfl rfl rfl rfl rfl ?_; refine oj_run TT rfl ?_) | (refine oj_conv TT _ rfl rfl rfl rfl rfl rfl rfl rfl rfl ?_; refine oj_run TT rfl ?_) | (refine oj_bshl rfl rfl rfl rfl rfl rfl (by decide) ?_; refine oj_run TT rfl ?_) | (refine oj_bshr rfl rfl rfl rfl rfl rfl (by decide) ?_; refine oj_run TT rfl ?_) | (refine oj_slnil TT rfl rfl rfl rfl rfl rfl rfl rfl ?_; refine oj_run TT rfl ?_) | (refine oj_add rfl rfl rfl rfl rfl rfl (by omega) ?_; refine oj_run TT rfl ?_) | (refine oj_minus rfl rfl rfl rfl rfl rfl (by omega) ?_; refine oj_run TT rfl ?_)))
      refine oj_idx TT rfl rfl rfl rfl rfl rfl rfl rfl rfl ((V.L.mono hle1).mono hs) (by omega) hr1 (oj_run TT rfl ?_)
      (repeat (first | refine cj_seq ?_ | (refine cj_region ?_; refine oj_run TT rfl ?_) | refine oj_then ?_ | refine oj_nil ?_ | refine cj_if_t rfl ?_ | refine cj_if_f rfl ?_ | refine cj_skip ?_ | refine cj_block ?_ | refine cj_exit ?_ | refine cj_ret ?_ | refine nj_then ?_ | refine nj_then_exit ?_ | refine nj_then_ret ?_ | refine nj_block ?_ | refine nj_block_ret ?_ | refine nj_block_out ?_ | refine nj_block_on rfl ?_ | (refine oj_band rfl rfl rfl rfl rfl rfl ?_; refine oj_run TT rfl ?_) | (refine oj_bor rfl rfl rfl rfl rfl rfl ?_; refine oj_run TT rfl ?_) | (refine oj_bandnot rfl rfl rfl rfl rfl rfl ?_; refine oj_run TT rfl ?_) | (refine oj_conv TT _ rfl rfl rfl rfl rfl rfl rfl rfl rfl ?_; refine oj_run TT rfl ?_) | (refine oj_bshl rfl rfl rfl rfl rfl rfl (by decide) ?_; refine oj_run TT rfl ?_) | (refine oj_bshr rfl rfl rfl rfl rfl rfl (by decide) ?_; refine oj_run TT rfl ?_) | (refine oj_slnil TT rfl rfl rfl rfl rfl rfl rfl rfl ?_; refine oj_run TT rfl ?_) | (refine oj_add rfl rfl rfl rfl rfl rfl (by omega) ?_; refine oj_run TT rfl ?_) | (refine oj_minus rfl rfl rfl rfl rfl rfl (by omega) ?_; refine oj_run TT rfl ?_)))
      refine oj_add rfl rfl rfl rfl rfl rfl (by show -9223372036854775808 ≤ x.lv + 1 ∧ x.lv + 1 ≤ 9223372036854775807; omega) (oj_run TT rfl ?_)
      refine oj_set 53 (.agg (recCells (rec0 (x.lv + 1) false emptyS))) rfl (recCells_lt _ _) (fun _ => rfl) ?_
      refine oj_callF [0, 1] (A0 := shA gs ao cap nw gap (L ++ x1 :: P)) (Ar := []) rfl rfl rfl rfl rfl rfl rfl Tryd.call71 (by (repeat' (first | exact trivial | exact Nat.le_of_ble_eq_true rfl | exact vCells_lt _ _ _ _ _ _ | exact decCells_lt _ _ | refine AllLt.of ?_ | refine SV.lt_tup ?_ | exact SV.lt_fn0 | exact AT.lt_fn0 | exact RepV.clo (by assumption) | constructor))) (ih _ hwx s _ (rec0 (x.lv + 1) false emptyS) gs ao cap nw gap (L ++ x1 :: P) V'.rep hnw1 (by omega) hg1 hg2 (by omega) (by show 0 ≤ x.lv + 1; omega) (by show x.lv + 1 + _ ≤ _; omega) hcp) fun v σ2 A2 hle2 ⟨hv, ao', cap', hcp', hA⟩ => ⟨.tup [], (by (repeat' (first | exact trivial | exact Nat.le_of_ble_eq_true rfl | exact vCells_lt _ _ _ _ _ _ | exact decCells_lt _ _ | refine AllLt.of ?_ | refine SV.lt_tup ?_ | exact SV.lt_fn0 | exact AT.lt_fn0 | exact RepV.clo (by assumption) | constructor))), hv.symm, ?_⟩
      subst hA
      refine oj_run TT rfl ?_
      (repeat (first | refine cj_seq ?_ | (refine cj_region ?_; refine oj_run TT rfl ?_) | refine oj_then ?_ | refine oj_nil ?_ | refine cj_if_t rfl ?_ | refine cj_if_f rfl ?_ | refine cj_skip ?_ | refine cj_block ?_ | refine cj_exit ?_ | refine cj_ret ?_ | refine nj_then ?_ | refine nj_then_exit ?_ | refine nj_then_ret ?_ | refine nj_block ?_ | refine nj_block_ret ?_ | refine nj_block_out ?_ | refine nj_block_on rfl ?_ | (refine oj_band rfl rfl rfl rfl rfl rfl ?_; refine oj_run TT rfl ?_) | (refine oj_bor rfl rfl rfl rfl rfl rfl ?_; refine oj_run TT rfl ?_) | (refine oj_bandnot rfl rfl rfl rfl rfl rfl ?_; refine oj_run TT rfl ?_) | (refine oj_conv TT _ rfl rfl rfl rfl rfl rfl rfl rfl rfl ?_; refine oj_run TT rfl ?_) | (refine oj_bshl rfl rfl rfl rfl rfl rfl (by decide) ?_; refine oj_run TT rfl ?_) | (refine oj_bshr rfl rfl rfl rfl rfl rfl (by decide) ?_; refine oj_run TT rfl ?_) | (refine oj_slnil TT rfl rfl rfl rfl rfl rfl rfl rfl ?_; refine oj_run TT rfl ?_) | (refine oj_add rfl rfl rfl rfl rfl rfl (by omega) ?_; refine oj_run TT rfl ?_) | (refine oj_minus rfl rfl rfl rfl rfl rfl (by omega) ?_; refine oj_run TT rfl ?_)))
      refine nj_again ⟨σ2, k + 1, ao', cap', (shredV gap g.l[k] (x.lv + 1) false emptyS nw).2, P ++ (shredV gap g.l[k] (x.lv + 1) false emptyS nw).1⟩
        ⟨hkl, Snap.le_trans hs hle2, by rw [List.append_assoc]; exact hP1, hP2, by dsimp only; omega, by dsimp only; omega, by dsimp only; rw [List.length_append]; omega, ?_⟩ (by dsimp only; omega) rfl (by (repeat (first | exact trivial | refine And.intro rfl ?_))) (by (repeat (first | exact trivial | refine And.intro rfl ?_))) ?_ (by (repeat' (first | exact trivial | exact Nat.le_of_ble_eq_true rfl | exact vCells_lt _ _ _ _ _ _ | exact decCells_lt _ _ | refine AllLt.of ?_ | refine SV.lt_tup ?_ | exact SV.lt_fn0 | exact AT.lt_fn0 | exact RepV.clo (by assumption) | constructor))) (by (repeat' (first | exact trivial | exact Nat.le_of_ble_eq_true rfl | exact vCells_lt _ _ _ _ _ _ | exact decCells_lt _ _ | refine AllLt.of ?_ | refine SV.lt_tup ?_ | exact SV.lt_fn0 | exact AT.lt_fn0 | exact RepV.clo (by assumption) | constructor)))
      · have e : L ++ x1 :: (P ++ (shredV gap g.l[k] (x.lv + 1) false emptyS nw).1) = L ++ x1 :: P ++ (shredV gap g.l[k] (x.lv + 1) false emptyS nw).1 := by simp
        dsimp only
        rw [e]; exact hcp'
      · have e : L ++ x1 :: (P ++ (shredV gap g.l[k] (x.lv + 1) false emptyS nw).1) = L ++ x1 :: P ++ (shredV gap g.l[k] (x.lv + 1) false emptyS nw).1 := by simp
        dsimp only
        rw [e, List.append_nil]
        rfl
    · have hk0 : k = g.l.length := by simp at h; omega
      subst hk0
      rw [List.drop_length, shredL] at hP1 hP2
      rw [List.append_nil] at hP1
      (repeat (first | refine cj_seq ?_ | (refine cj_region ?_; refine oj_run TT rfl ?_) | refine oj_then ?_ | refine oj_nil ?_ | refine cj_if_t rfl ?_ | refine cj_if_f rfl ?_ | refine cj_skip ?_ | refine cj_block ?_ | refine cj_exit ?_ | refine cj_ret ?_ | refine nj_then ?_ | refine nj_then_exit ?_ | refine nj_then_ret ?_ | refine nj_block ?_ | refine nj_block_ret ?_ | refine nj_block_out ?_ | refine nj_block_on rfl ?_ | (refine oj_band rfl rfl rfl rfl rfl rfl ?_; refine oj_run TT rfl ?_) | (refine oj_bor rfl rfl rfl rfl rfl rfl ?_; refine oj_run TT rfl ?_) | (refine oj_bandnot rfl rfl rfl rfl rfl rfl ?_; refine oj_run TT rfl ?_) | (refine oj_conv TT _ rfl rfl rfl rfl rfl rfl rfl rfl rfl ?_; refine oj_run TT rfl ?_) | (refine oj_bshl rfl rfl rfl rfl rfl rfl (by decide) ?_; refine oj_run TT rfl ?_) | (refine oj_bshr rfl rfl rfl rfl rfl rfl (by decide) ?_; refine oj_run TT rfl ?_) | (refine oj_slnil TT rfl rfl rfl rfl rfl rfl rfl rfl ?_; refine oj_run TT rfl ?_) | (refine oj_add rfl rfl rfl rfl rfl rfl (by omega) ?_; refine oj_run TT rfl ?_) | (refine oj_minus rfl rfl rfl rfl rfl rfl (by omega) ?_; refine oj_run TT rfl ?_)))
      refine nj_again ⟨s, g.l.length, ao, cap, nw, P⟩ ⟨hs, hP1, hP2, hcp⟩ Nat.zero_lt_one rfl (by (repeat (first | exact trivial | refine And.intro rfl ?_))) (by (repeat (first | exact trivial | refine And.intro rfl ?_))) rfl (by (repeat' (first | exact trivial | exact Nat.le_of_ble_eq_true rfl | exact vCells_lt _ _ _ _ _ _ | exact decCells_lt _ _ | refine AllLt.of ?_ | refine SV.lt_tup ?_ | exact SV.lt_fn0 | exact AT.lt_fn0 | exact RepV.clo (by assumption) | constructor))) (by (repeat' (first | exact trivial | exact Nat.le_of_ble_eq_true rfl | exact vCells_lt _ _ _ _ _ _ | exact decCells_lt _ _ | refine AllLt.of ?_ | refine SV.lt_tup ?_ | exact SV.lt_fn0 | exact AT.lt_fn0 | exact RepV.clo (by assumption) | constructor)))
  obtain ⟨s, k0, ao, cap, nw0, P0⟩ := s
  dsimp only at hs hsP hsn hscap ⊢
  have hlP : P0.length ≤ GVal.weights g.l := by rw [hsP]; exact hll
  have hn0 : nw0 ≤ now + gap + 2000 * GVal.weights g.l := by rw [hsn]; exact hsl.2
  have hn0' : now + gap ≤ nw0 := by rw [hsn]; exact hsl.1
  rw [← hsn] at hlm hsm
  rw [← hsn, ← hsP]
  clear hsn hsP
  (repeat (first | refine cj_seq ?_ | (refine cj_region ?_; refine oj_run TT rfl ?_) | refine oj_then ?_ | refine oj_nil ?_ | refine cj_if_t rfl ?_ | refine cj_if_f rfl ?_ | refine cj_skip ?_ | refine cj_block ?_ | refine cj_exit ?_ | refine cj_ret ?_ | refine nj_then ?_ | refine nj_then_exit ?_ | refine nj_then_ret ?_ | refine nj_block ?_ | refine nj_block_ret ?_ | refine nj_block_out ?_ | refine nj_block_on rfl ?_ | (refine oj_band rfl rfl rfl rfl rfl rfl ?_; refine oj_run TT rfl ?_) | (refine oj_bor rfl rfl rfl rfl rfl rfl ?_; refine oj_run TT rfl ?_) | (refine oj_bandnot rfl rfl rfl rfl rfl rfl ?_; refine oj_run TT rfl ?_) | (refine oj_conv TT _ rfl rfl rfl rfl rfl rfl rfl rfl rfl ?_; refine oj_run TT rfl ?_) | (refine oj_bshl rfl rfl rfl rfl rfl rfl (by decide) ?_; refine oj_run TT rfl ?_) | (refine oj_bshr rfl rfl rfl rfl rfl rfl (by decide) ?_; refine oj_run TT rfl ?_) | (refine oj_slnil TT rfl rfl rfl rfl rfl rfl rfl rfl ?_; refine oj_run TT rfl ?_) | (refine oj_add rfl rfl rfl rfl rfl rfl (by omega) ?_; refine oj_run TT rfl ?_) | (refine oj_minus rfl rfl rfl rfl rfl rfl (by omega) ?_; refine oj_run TT rfl ?_)))
  refine cj_cutB (fun (s : ShS) => s.σ) (fun _ => [(0, .a (.v (.pointer (some ⟨gs, 0, none⟩)))), (6, .a (.v (.int .i64 L.length)))])
    (fun _ => []) (fun s => shA gs s.ao s.cap s.now gap (L ++ x1 :: P0 ++ s.P)) 0
    (fun s => σ1.le s.σ ∧ s.P = (shredM gap g.vs g.ks (x.lv + 1) nw0).1 ∧ s.now = (shredM gap g.vs g.ks (x.lv + 1) nw0).2 ∧ (L ++ x1 :: P0 ++ s.P).length ≤ s.cap) ?_ (fun s ⟨hs, hsP, hsn, hscap⟩ => ?_)
  · refine cj_loop (fun (s : ShS) => s.σ) (fun s => [(0, .a (.v (.pointer (some ⟨gs, 0, none⟩)))), (4, .a (.p 0 0)), (5, .a (.p 1 0)), (6, .a (.v (.int .i64 L.length))), (57, .a (.v (.slice ma g.ks.length mc))), (58, .a (.v (.int .i64 g.ks.length))), (59, .a (.v (.int .i64 s.k)))])
      (fun _ => [(0, .loc 27, vCells g la lc ma mc), (1, .loc 36, recCells x1)]) (fun s => shA gs s.ao s.cap s.now gap (L ++ x1 :: P0 ++ s.P)) 2
      (fun s => s.k ≤ g.ks.length ∧ σ1.le s.σ ∧ s.P ++ (shredM gap (g.vs.drop s.k) (g.ks.drop s.k) (x.lv + 1) s.now).1 = (shredM gap g.vs g.ks (x.lv + 1) nw0).1 ∧ (shredM gap (g.vs.drop s.k) (g.ks.drop s.k) (x.lv + 1) s.now).2 = (shredM gap g.vs g.ks (x.lv + 1) nw0).2 ∧
        0 ≤ s.now ∧ s.now + 2000 * GVal.weights (g.vs.drop s.k) ≤ nw0 + 2000 * GVal.weights g.vs ∧ s.P.length + GVal.weights (g.vs.drop s.k) ≤ GVal.weights g.vs ∧ (L ++ x1 :: P0 ++ s.P).length ≤ s.cap)
      (fun s => g.ks.length - s.k) ⟨s, 0, ao, cap, nw0, []⟩ ⟨Nat.zero_le _, hs, rfl, rfl, by dsimp only; omega, by dsimp only; rw [List.drop_zero]; omega, by dsimp only; rw [List.drop_zero]; simp, by dsimp only; rw [List.append_nil]; exact hscap⟩
      rfl (by (repeat (first | exact trivial | refine And.intro rfl ?_))) (by (repeat (first | exact trivial | refine And.intro rfl ?_))) (by rw [List.append_nil]) (by (repeat' (first | exact trivial | exact Nat.le_of_ble_eq_true rfl | exact vCells_lt _ _ _ _ _ _ | exact decCells_lt _ _ | refine AllLt.of ?_ | refine SV.lt_tup ?_ | exact SV.lt_fn0 | exact AT.lt_fn0 | exact RepV.clo (by assumption) | constructor))) (by (repeat' (first | exact trivial | exact Nat.le_of_ble_eq_true rfl | exact vCells_lt _ _ _ _ _ _ | exact decCells_lt _ _ | refine AllLt.of ?_ | refine SV.lt_tup ?_ | exact SV.lt_fn0 | exact AT.lt_fn0 | exact RepV.clo (by assumption) | constructor))) fun ⟨s, k, ao, cap, nw, P⟩ ⟨hk, hs, hP1, hP2, hnw1, hnw2, hPw, hcp⟩ => ?_
    dsimp only at hk hs hP1 hP2 hnw1 hnw2 hPw hcp ⊢
    (repeat (first | refine cj_seq ?_ | (refine cj_region ?_; refine oj_run TT rfl ?_) | refine oj_then ?_ | refine oj_nil ?_ | refine cj_if_t rfl ?_ | refine cj_if_f rfl ?_ | refine cj_skip ?_ | refine cj_block ?_ | refine cj_exit ?_ | refine cj_ret ?_ | refine nj_then ?_ | refine nj_then_exit ?_ | refine nj_then_ret ?_ | refine nj_block ?_ | refine nj_block_ret ?_ | refine nj_block_out ?_ | refine nj_block_on rfl ?_ | (refine oj_band rfl rfl rfl rfl rfl rfl ?_; refine oj_run TT rfl ?_) | (refine oj_bor rfl rfl rfl rfl rfl rfl ?_; refine oj_run TT rfl ?_) | (refine oj_bandnot rfl rfl rfl rfl rfl rfl ?_; refine oj_run TT rfl ?_) | (refine oj_conv TT _ rfl rfl rfl rfl rfl rfl rfl rfl rfl ?_; refine oj_run TT rfl ?_) | (refine oj_bshl rfl rfl rfl rfl rfl rfl (by decide) ?_; refine oj_run TT rfl ?_) | (refine oj_bshr rfl rfl rfl rfl rfl rfl (by decide) ?_; refine oj_run TT rfl ?_) | (refine oj_slnil TT rfl rfl rfl rfl rfl rfl rfl rfl ?_; refine oj_run TT rfl ?_) | (refine oj_add rfl rfl rfl rfl rfl rfl (by omega) ?_; refine oj_run TT rfl ?_) | (refine oj_minus rfl rfl rfl rfl rfl rfl (by omega) ?_; refine oj_run TT rfl ?_)))
    refine cj_if rfl (fun h => ?_) (fun h => ?_)
    · have hkl : k < g.ks.length := by simpa using h
      have hkv' : k < g.vs.length := by omega
      obtain ⟨rr, hr1, hr2⟩ := (V.v.mono (Snap.le_trans hle1 hs)).get (List.getElem?_eq_getElem hkv')
      have hrow := keyRows_get (List.getElem?_eq_getElem hkl) hr1
      obtain ⟨la', lc', lrows', ma', mc', vrows', rfl, V'⟩ := hr2.open
      have hwx := weight_v (List.getElem_mem hkv')
      have hwd := weights_drop (List.getElem?_eq_getElem hkv')
      rw [List.drop_eq_getElem_cons hkv', List.drop_eq_getElem_cons hkl, shredM] at hP1 hP2
      have hnx := shredV_now (gap := gap) g.vs[k] (x.lv + 1) true g.ks[k] nw hg1 hg2
      have hlx := (shredV_len gap g.vs[k] (x.lv + 1) true g.ks[k] nw).1
      have hlen : (L ++ x1 :: P0 ++ P).length = L.length + 1 + P0.length + P.length := by simp; omega
      (repeat (first | refine cj_seq ?_ | (refine cj_region ?_; refine oj_run TT rfl ?_) | refine oj_then ?_ | refine oj_nil ?_ | refine cj_if_t rfl ?_ | refine cj_if_f rfl ?_ | refine cj_skip ?_ | refine cj_block ?_ | refine cj_exit ?_ | refine cj_ret ?_ | refine nj_then ?_ | refine nj_then_exit ?_ | refine nj_then_ret ?_ | refine nj_block ?_ | refine nj_block_ret ?_ | refine nj_block_out ?_ | refine nj_block_on rfl ?_ | (refine oj_band rfl rfl rfl rfl rfl rfl ?_; refine oj_run TT rfl ?_) | (refine oj_bor rfl rfl rfl rfl rfl rfl ?_; refine oj_run TT rfl ?_) | (refine oj_bandnot rfl rfl rfl rfl rfl rfl ?_; refine oj_run TT rfl ?_) | (refine oj_conv TT _ rfl rfl rfl rfl rfl rfl rfl rfl rfl ?_; refine oj_run TT rfl ?_) | (refine oj_bshl rfl rfl rfl rfl rfl rfl (by decide) ?_; refine oj_run TT rfl ?_) | (refine oj_bshr rfl rfl rfl rfl rfl rfl (by decide) ?_; refine oj_run TT rfl ?_) | (refine oj_slnil TT rfl rfl rfl rfl rfl rfl rfl rfl ?_; refine oj_run TT rfl ?_) | (refine oj_add rfl rfl rfl rfl rfl rfl (by omega) ?_; refine oj_run TT rfl ?_) | (refine oj_minus rfl rfl rfl rfl rfl rfl (by omega) ?_; refine oj_run TT rfl ?_)))
      refine oj_idx TT rfl rfl rfl rfl rfl rfl rfl rfl rfl ((V.M.mono hle1).mono hs) (by omega) hrow (oj_run TT rfl ?_)
      (repeat (first | refine cj_seq ?_ | (refine cj_region ?_; refine oj_run TT rfl ?_) | refine oj_then ?_ | refine oj_nil ?_ | refine cj_if_t rfl ?_ | refine cj_if_f rfl ?_ | refine cj_skip ?_ | refine cj_block ?_ | refine cj_exit ?_ | refine cj_ret ?_ | refine nj_then ?_ | refine nj_then_exit ?_ | refine nj_then_ret ?_ | refine nj_block ?_ | refine nj_block_ret ?_ | refine nj_block_out ?_ | refine nj_block_on rfl ?_ | (refine oj_band rfl rfl rfl rfl rfl rfl ?_; refine oj_run TT rfl ?_) | (refine oj_bor rfl rfl rfl rfl rfl rfl ?_; refine oj_run TT rfl ?_) | (refine oj_bandnot rfl rfl rfl rfl rfl rfl ?_; refine oj_run TT rfl ?_) | (refine oj_conv TT _ rfl rfl rfl rfl rfl rfl rfl rfl rfl ?_; refine oj_run TT rfl ?_) | (refine oj_bshl rfl rfl rfl rfl rfl rfl (by decide) ?_; refine oj_run TT rfl ?_) | (refine oj_bshr rfl rfl rfl rfl rfl rfl (by decide) ?_; refine oj_run TT rfl ?_) | (refine oj_slnil TT rfl rfl rfl rfl rfl rfl rfl rfl ?_; refine oj_run TT rfl ?_) | (refine oj_add rfl rfl rfl rfl rfl rfl (by omega) ?_; refine oj_run TT rfl ?_) | (refine oj_minus rfl rfl rfl rfl rfl rfl (by omega) ?_; refine oj_run TT rfl ?_)))
      refine oj_add rfl rfl rfl rfl rfl rfl (by show -9223372036854775808 ≤ x.lv + 1 ∧ x.lv + 1 ≤ 9223372036854775807; omega) (oj_run TT rfl ?_)
      refine oj_set 71 (.agg (recCells (rec0 (x.lv + 1) true g.ks[k]))) rfl (recCells_lt _ _) (fun _ => rfl) ?_
      refine oj_callF [0, 1] (A0 := shA gs ao cap nw gap (L ++ x1 :: P0 ++ P)) (Ar := []) rfl rfl rfl rfl rfl rfl rfl Tryd.call71 (by (repeat' (first | exact trivial | exact Nat.le_of_ble_eq_true rfl | exact vCells_lt _ _ _ _ _ _ | exact decCells_lt _ _ | refine AllLt.of ?_ | refine SV.lt_tup ?_ | exact SV.lt_fn0 | exact AT.lt_fn0 | exact RepV.clo (by assumption) | constructor))) (ih _ hwx s _ (rec0 (x.lv + 1) true g.ks[k]) gs ao cap nw gap (L ++ x1 :: P0 ++ P) V'.rep hnw1 (by omega) hg1 hg2 (by omega) (by show 0 ≤ x.lv + 1; omega) (by show x.lv + 1 + _ ≤ _; omega) hcp) fun v σ2 A2 hle2 ⟨hv, ao', cap', hcp', hA⟩ => ⟨.tup [], (by (repeat' (first | exact trivial | exact Nat.le_of_ble_eq_true rfl | exact vCells_lt _ _ _ _ _ _ | exact decCells_lt _ _ | refine AllLt.of ?_ | refine SV.lt_tup ?_ | exact SV.lt_fn0 | exact AT.lt_fn0 | exact RepV.clo (by assumption) | constructor))), hv.symm, ?_⟩
      subst hA
      refine oj_run TT rfl ?_
      (repeat (first | refine cj_seq ?_ | (refine cj_region ?_; refine oj_run TT rfl ?_) | refine oj_then ?_ | refine oj_nil ?_ | refine cj_if_t rfl ?_ | refine cj_if_f rfl ?_ | refine cj_skip ?_ | refine cj_block ?_ | refine cj_exit ?_ | refine cj_ret ?_ | refine nj_then ?_ | refine nj_then_exit ?_ | refine nj_then_ret ?_ | refine nj_block ?_ | refine nj_block_ret ?_ | refine nj_block_out ?_ | refine nj_block_on rfl ?_ | (refine oj_band rfl rfl rfl rfl rfl rfl ?_; refine oj_run TT rfl ?_) | (refine oj_bor rfl rfl rfl rfl rfl rfl ?_; refine oj_run TT rfl ?_) | (refine oj_bandnot rfl rfl rfl rfl rfl rfl ?_; refine oj_run TT rfl ?_) | (refine oj_conv TT _ rfl rfl rfl rfl rfl rfl rfl rfl rfl ?_; refine oj_run TT rfl ?_) | (refine oj_bshl rfl rfl rfl rfl rfl rfl (by decide) ?_; refine oj_run TT rfl ?_) | (refine oj_bshr rfl rfl rfl rfl rfl rfl (by decide) ?_; refine oj_run TT rfl ?_) | (refine oj_slnil TT rfl rfl rfl rfl rfl rfl rfl rfl ?_; refine oj_run TT rfl ?_) | (refine oj_add rfl rfl rfl rfl rfl rfl (by omega) ?_; refine oj_run TT rfl ?_) | (refine oj_minus rfl rfl rfl rfl rfl rfl (by omega) ?_; refine oj_run TT rfl ?_)))
      refine nj_again ⟨σ2, k + 1, ao', cap', (shredV gap g.vs[k] (x.lv + 1) true g.ks[k] nw).2, P ++ (shredV gap g.vs[k] (x.lv + 1) true g.ks[k] nw).1⟩
        ⟨hkl, Snap.le_trans hs hle2, by rw [List.append_assoc]; exact hP1, hP2, by dsimp only; omega, by dsimp only; omega, by dsimp only; rw [List.length_append]; omega, ?_⟩ (by dsimp only; omega) rfl (by (repeat (first | exact trivial | refine And.intro rfl ?_))) (by (repeat (first | exact trivial | refine And.intro rfl ?_))) ?_ (by (repeat' (first | exact trivial | exact Nat.le_of_ble_eq_true rfl | exact vCells_lt _ _ _ _ _ _ | exact decCells_lt _ _ | refine AllLt.of ?_ | refine SV.lt_tup ?_ | exact SV.lt_fn0 | exact AT.lt_fn0 | exact RepV.clo (by assumption) | constructor))) (by (repeat' (first | exact trivial | exact Nat.le_of_ble_eq_true rfl | exact vCells_lt _ _ _ _ _ _ | exact decCells_lt _ _ | refine AllLt.of ?_ | refine SV.lt_tup ?_ | exact SV.lt_fn0 | exact AT.lt_fn0 | exact RepV.clo (by assumption) | constructor)))
      · dsimp only
        rw [← List.append_assoc]; exact hcp'
      · dsimp only
        rw [← List.append_assoc, List.append_nil]
        rfl
    · have hk0 : k = g.ks.length := by simp at h; omega
      subst hk0
      rw [List.drop_length, List.drop_of_length_le (by omega), shredM] at hP1 hP2
      rw [List.append_nil] at hP1
      (repeat (first | refine cj_seq ?_ | (refine cj_region ?_; refine oj_run TT rfl ?_) | refine oj_then ?_ | refine oj_nil ?_ | refine cj_if_t rfl ?_ | refine cj_if_f rfl ?_ | refine cj_skip ?_ | refine cj_block ?_ | refine cj_exit ?_ | refine cj_ret ?_ | refine nj_then ?_ | refine nj_then_exit ?_ | refine nj_then_ret ?_ | refine nj_block ?_ | refine nj_block_ret ?_ | refine nj_block_out ?_ | refine nj_block_on rfl ?_ | (refine oj_band rfl rfl rfl rfl rfl rfl ?_; refine oj_run TT rfl ?_) | (refine oj_bor rfl rfl rfl rfl rfl rfl ?_; refine oj_run TT rfl ?_) | (refine oj_bandnot rfl rfl rfl rfl rfl rfl ?_; refine oj_run TT rfl ?_) | (refine oj_conv TT _ rfl rfl rfl rfl rfl rfl rfl rfl rfl ?_; refine oj_run TT rfl ?_) | (refine oj_bshl rfl rfl rfl rfl rfl rfl (by decide) ?_; refine oj_run TT rfl ?_) | (refine oj_bshr rfl rfl rfl rfl rfl rfl (by decide) ?_; refine oj_run TT rfl ?_) | (refine oj_slnil TT rfl rfl rfl rfl rfl rfl rfl rfl ?_; refine oj_run TT rfl ?_) | (refine oj_add rfl rfl rfl rfl rfl rfl (by omega) ?_; refine oj_run TT rfl ?_) | (refine oj_minus rfl rfl rfl rfl rfl rfl (by omega) ?_; refine oj_run TT rfl ?_)))
      refine nj_again ⟨s, g.ks.length, ao, cap, nw, P⟩ ⟨hs, hP1, hP2, hcp⟩ Nat.zero_lt_one rfl (by (repeat (first | exact trivial | refine And.intro rfl ?_))) (by (repeat (first | exact trivial | refine And.intro rfl ?_))) rfl (by (repeat' (first | exact trivial | exact Nat.le_of_ble_eq_true rfl | exact vCells_lt _ _ _ _ _ _ | exact decCells_lt _ _ | refine AllLt.of ?_ | refine SV.lt_tup ?_ | exact SV.lt_fn0 | exact AT.lt_fn0 | exact RepV.clo (by assumption) | constructor))) (by (repeat' (first | exact trivial | exact Nat.le_of_ble_eq_true rfl | exact vCells_lt _ _ _ _ _ _ | exact decCells_lt _ _ | refine AllLt.of ?_ | refine SV.lt_tup ?_ | exact SV.lt_fn0 | exact AT.lt_fn0 | exact RepV.clo (by assumption) | constructor)))
  obtain ⟨s, k0, ao, cap, nw1, P1⟩ := s
  dsimp only at hs hsP hsn hscap ⊢
  have hn1' : nw1 ≤ nw0 + 2000 * GVal.weights g.vs := by rw [hsn]; exact hsm.2
  have hn1'' : nw0 ≤ nw1 := by rw [hsn]; exact hsm.1
  rw [← hsn, ← hsP]
  clear hsn hsP
  have hM : (L ++ x1 :: P0 ++ P1)[L.length]? = some x1 := by simp
  have hMl : L.length < (L ++ x1 :: P0 ++ P1).length := (List.getElem?_eq_some_iff.1 hM).1
  have hMs : (L ++ x1 :: P0 ++ P1).set L.length ⟨now + gap, nw1 + gap, x.lv, g.kind, x.nm, x.name, g.b, g.n, g.s⟩ = L ++ ⟨now + gap, nw1 + gap, x.lv, g.kind, x.nm, x.name, g.b, g.n, g.s⟩ :: (P0 ++ P1) := by simp
  have hMn : (L ++ ⟨now + gap, nw1 + gap, x.lv, g.kind, x.nm, x.name, g.b, g.n, g.s⟩ :: (P0 ++ P1)).length = (L ++ x1 :: P0 ++ P1).length := by simp
  generalize hMM : L ++ x1 :: P0 ++ P1 = M at *
  refine cj_arrAt 1 (E := rE ao M.length cap M) rfl (by show 0 < M.length; omega) fun g1 hg1' => ?_
  have hg1' : ao = some ⟨g1, 0, none⟩ := hg1'
  subst hg1'
  refine cj_drawW ord71_15 (fun β w => w.cell? ⟨gs, 0, none⟩ = some (.slice (some ⟨g1, 0, none⟩) M.length cap)) (fun β w h => (h.arr 0 (sE gs (some ⟨g1, 0, none⟩) M.length cap nw1 gap) rfl).cell rfl rfl) mixed (by kernel_rfl) ?_
  refine ow_pure TT rfl rfl rfl rfl rfl rfl ?_
  refine ow_pure TT rfl rfl rfl rfl rfl rfl ?_
  refine ow_pure TT rfl rfl rfl rfl rfl rfl ?_
  refine ow_ld1 TT (.v (.slice (some ⟨g1, 0, none⟩) M.length cap)) rfl rfl rfl rfl rfl rfl rfl rfl (fun _ _ h => h) trivial ?_
  refine ow_pure TT rfl rfl rfl rfl rfl rfl ?_
  refine ow_pure TT rfl rfl rfl rfl rfl rfl ?_
  refine ow_call [0, 1] (A0 := [sE gs (some ⟨g1, 0, none⟩) M.length cap nw1 gap]) (Ar := [rE (some ⟨g1, 0, none⟩) M.length cap M]) rfl rfl rfl rfl rfl rfl rfl Tryd.call120 (by (repeat' (first | exact trivial | exact Nat.le_of_ble_eq_true rfl | exact vCells_lt _ _ _ _ _ _ | exact decCells_lt _ _ | refine AllLt.of ?_ | refine SV.lt_tup ?_ | exact SV.lt_fn0 | exact AT.lt_fn0 | exact RepV.clo (by assumption) | constructor))) (number_c s gs (some ⟨g1, 0, none⟩) M.length cap nw1 gap (by omega) (by omega) hg1 hg2) fun v σ2 A2 hle2 ⟨hv, hA⟩ => ?_
  subst hA
  refine ⟨fun β w h => (h.arr 0 (sE gs (some ⟨g1, 0, none⟩) M.length cap (nw1 + gap) gap) rfl).cell rfl rfl, .a (.v (.int .i64 (nw1 + gap))), trivial, hv.symm, ?_⟩
  refine ow_end rfl (fun β w h => (h.arr 0 (sE gs (some ⟨g1, 0, none⟩) M.length cap (nw1 + gap) gap) rfl).cell rfl rfl) (oj_run TT rfl ?_)
  refine oj_indexAddr TT rfl rfl rfl rfl rfl rfl rfl rfl rfl ⟨by omega, by omega⟩ (oj_run TT rfl ?_)
  have hoff : L.length * 11 + 1 < M.length * 11 := by omega
  refine oj_stA 1 (A' := shA gs (some ⟨g1, 0, none⟩) cap (nw1 + gap) gap (L ++ ⟨now + gap, nw1 + gap, x.lv, g.kind, x.nm, x.name, g.b, g.n, g.s⟩ :: (P0 ++ P1))) (off := L.length * 11 + 1) TT rfl rfl rfl rfl ?_ rfl rfl rfl rfl rfl hoff trivial rfl ?_ (oj_run TT rfl ?_)
  · show some (SV.a (AT.v (.pointer (some (Addr.add (Addr.add ⟨g1, 0, none⟩ ((L.length : Int).toNat * 11)) 1))))) = _
    rw [add0, Addr.add_lit]
    rfl
  · unfold shA
    rw [hMn]
    show [_, _] = [_, _]
    congr 1
    congr 1
    unfold rE
    congr 1
    show (recXs M).set (L.length * 11 + 1) (AT.v (.int .i64 (nw1 + gap))).val = _
    rw [recXs_set (r' := ⟨now + gap, nw1 + gap, x.lv, g.kind, x.nm, x.name, g.b, g.n, g.s⟩) _ hM (by omega) rfl, hMs]
  (repeat (first | refine cj_seq ?_ | (refine cj_region ?_; refine oj_run TT rfl ?_) | refine oj_then ?_ | refine oj_nil ?_ | refine cj_if_t rfl ?_ | refine cj_if_f rfl ?_ | refine cj_skip ?_ | refine cj_block ?_ | refine cj_exit ?_ | refine cj_ret ?_ | refine nj_then ?_ | refine nj_then_exit ?_ | refine nj_then_ret ?_ | refine nj_block ?_ | refine nj_block_ret ?_ | refine nj_block_out ?_ | refine nj_block_on rfl ?_ | (refine oj_band rfl rfl rfl rfl rfl rfl ?_; refine oj_run TT rfl ?_) | (refine oj_bor rfl rfl rfl rfl rfl rfl ?_; refine oj_run TT rfl ?_) | (refine oj_bandnot rfl rfl rfl rfl rfl rfl ?_; refine oj_run TT rfl ?_) | (refine oj_conv TT _ rfl rfl rfl rfl rfl rfl rfl rfl rfl ?_; refine oj_run TT rfl ?_) | (refine oj_bshl rfl rfl rfl rfl rfl rfl (by decide) ?_; refine oj_run TT rfl ?_) | (refine oj_bshr rfl rfl rfl rfl rfl rfl (by decide) ?_; refine oj_run TT rfl ?_) | (refine oj_slnil TT rfl rfl rfl rfl rfl rfl rfl rfl ?_; refine oj_run TT rfl ?_) | (refine oj_add rfl rfl rfl rfl rfl rfl (by omega) ?_; refine oj_run TT rfl ?_) | (refine oj_minus rfl rfl rfl rfl rfl rfl (by omega) ?_; refine oj_run TT rfl ?_)))
  refine nj_fend TT rfl fun β w' _ _ => ?_
  refine ⟨rfl, _, cap, ?_, rfl⟩
  rw [hMn]; exact hscap
end Go.Sy
