/- Parts of the proof of CGuideCounts: F30, SyU, Le, F31, Lg, Lh, F39, XCl. No conditions. -/
import Derived.Test.YtadnijcgohflhaaDoorM11
import Derived.Carry
import Derived.RowKit
import Derived.ChangeStays
import Derived.ChangeSame
import Derived.ReadAgain
import Derived.SizedLaws
import Derived.Deep.DeepHandedRow
namespace Go.Sy
open Go.Proofs

/-! ### awake of layer 13 -/

def nullG : GVal := .mk 0 false dec0 emptyS [] [] []
def twoG : GVal := .mk 4 false dec0 emptyS [nullG, nullG] [] []
def aw13 : GVal := .mk 5 false dec0 emptyS [] [⟨#[97]⟩] [twoG]
def aw13L : List GRec := [⟨1, 8, 0, 5, false, emptyS, false, dec0, emptyS⟩, ⟨2, 7, 1, 4, true, ⟨#[97]⟩, false, dec0, emptyS⟩, ⟨3, 4, 2, 0, false, emptyS, false, dec0, emptyS⟩, ⟨5, 6, 2, 0, false, emptyS, false, dec0, emptyS⟩]
theorem aw13_shred : shredG aw13 1 = (aw13L, 0) := by decide
theorem aw13_sound : soundG aw13L = true := by decide
theorem aw13_ok : RecsOk aw13L := ⟨by decide, fun r hr => by simp only [aw13L, List.mem_cons, List.not_mem_nil, or_false] at hr; rcases hr with rfl | rfl | rfl | rfl <;> exact ⟨by decide, by decide, by decide⟩, fun _ => by decide⟩
def aw13P : List (List ByteArray) := [[], [⟨#[46, 97]⟩], [⟨#[46, 97]⟩, elemS], [⟨#[46, 97]⟩, elemS]]
theorem aw13_paths : pathsG aw13L = aw13P := by decide

theorem null_rep (σ : Snap) : RepV σ nullG (vCells nullG none 0 none 0) := by
  simp only [nullG, RepV]
  exact ⟨none, 0, [], none, 0, [], rfl, SlAt.nil _ _ _ _, rfl, rfl, SlAt.nil _ _ _ _, rfl, by decide, by decide, by decide, by decide, fun k h => (by cases h)⟩

theorem aw13_levels : levelsOk 0 aw13L := by
  refine ⟨by decide, by decide, ?_⟩
  refine ⟨by decide, by decide, ?_⟩
  refine ⟨by decide, by decide, ?_⟩
  exact ⟨by decide, by decide, trivial⟩
def aS : ByteArray := ⟨#[46, 97]⟩
theorem aw13_list {ps : List SRow} (h : ps.map SRow.ss = aw13P) : ∃ a0 c0 a1 c1 a2 c2 a3 c3, ps = [⟨a0, c0, []⟩, ⟨a1, c1, [aS]⟩, ⟨a2, c2, [aS, elemS]⟩, ⟨a3, c3, [aS, elemS]⟩] := by
  match ps, h with
  | [⟨a0, c0, s0⟩, ⟨a1, c1, s1⟩, ⟨a2, c2, s2⟩, ⟨a3, c3, s3⟩], h =>
    simp only [aw13P, List.map_cons, List.map_nil, List.cons.injEq, and_true] at h
    obtain ⟨rfl, rfl, rfl, rfl⟩ := h
    exact ⟨a0, c0, a1, c1, a2, c2, a3, c3, rfl⟩
def aw13X (a0 : Option Addr) (c0 : Nat) (a1 : Option Addr) (c1 : Nat) (a2 : Option Addr) (c2 : Nat) : List GLine := [⟨0, a0, c0, [], 1⟩, ⟨1, a1, c1, [aS], 1⟩, ⟨2, a2, c2, [aS, elemS], 2⟩]
theorem aw13_add (a0 : Option Addr) (c0 : Nat) (a1 : Option Addr) (c1 : Nat) (a2 : Option Addr) (c2 : Nat) (a3 : Option Addr) (c3 : Nat) :
    addAll ⟨[], 0, []⟩ [⟨a0, c0, []⟩, ⟨a1, c1, [aS]⟩, ⟨a2, c2, [aS, elemS]⟩, ⟨a3, c3, [aS, elemS]⟩] = ⟨aw13X a0 c0 a1 c1 a2 c2, 3, [0, 1, 2, 2]⟩ := rfl
theorem aw13_find (a0 : Option Addr) (c0 : Nat) (a1 : Option Addr) (c1 : Nat) (a2 : Option Addr) (c2 : Nat) : findIdG (aw13X a0 c0 a1 c1 a2 c2) [aS, elemS] = 2 := rfl
theorem aw13_gsound (a0 : Option Addr) (c0 : Nat) (a1 : Option Addr) (c1 : Nat) (a2 : Option Addr) (c2 : Nat) : soundGd (aw13X a0 c0 a1 c1 a2 c2) 3 = true := rfl

set_option maxRecDepth 100000 in
set_option maxHeartbeats 1000000 in
theorem awake13_c (σ : Snap) : PlainS Tryd.prog 46 [] σ (fun v => v = .bool true) := by
  refine enter_p Tryd.func46 rfl rfl (by (repeat' exact trivial)) fun w => ?_
  (repeat (first | refine cj_seq ?_ | (refine cj_region ?_; refine oj_run TT rfl ?_) | refine oj_then ?_))
  refine oj_makeSliceN (n := 2) TT _ rfl rfl rfl rfl rfl rfl rfl rfl rfl rfl (by decide) (by decide) (madeCells_rep ((vCells nullG none 0 none 0).map AT.val) 2) fun g0 => ?_
  refine oj_seal 0 rfl rfl rfl fun σ1 hle1 hS => ?_
  have H1 : SlAt σ1 (some ⟨g0, 0, none⟩) 2 2 8 [vCells nullG none 0 none 0, vCells nullG none 0 none 0] := hS.sl (rows := [vCells nullG none 0 none 0, vCells nullG none 0 none 0]) rfl (fun r hr => by
    simp only [List.mem_cons, List.not_mem_nil, or_false] at hr
    rcases hr with rfl | rfl <;> exact ⟨rfl, vCells_lt _ _ _ _ _ _⟩) rfl rfl (Nat.le_refl _)
  have R1 : RepV σ1 twoG (vCells twoG (some ⟨g0, 0, none⟩) 2 none 0) := by
    simp only [twoG, RepV]
    exact ⟨some ⟨g0, 0, none⟩, 2, _, none, 0, [], rfl, H1, ⟨_, _, rfl, null_rep σ1, _, _, rfl, null_rep σ1, rfl⟩, rfl, SlAt.nil _ _ _ _, rfl, by decide, by decide, by decide, by decide, fun k h => (by cases h)⟩
  refine oj_run TT rfl ?_
  refine oj_ownH 0 1 9 rfl (by (repeat' (first | exact trivial | refine AllLt.of ?_ | constructor))) rfl (by decide) fun g1 => ?_
  refine oj_seal 0 rfl rfl rfl fun σ2 hle2 hS => ?_
  have H2 : SlAt σ2 (some ⟨g1, 0, none⟩) 1 1 9 (keyRows [⟨#[97]⟩] [vCells twoG (some ⟨g0, 0, none⟩) 2 none 0]) := hS.sl (rows := keyRows [⟨#[97]⟩] [vCells twoG (some ⟨g0, 0, none⟩) 2 none 0]) rfl (fun r hr => by
    simp only [keyRows, List.mem_singleton] at hr
    subst hr
    exact ⟨rfl, by (repeat' (first | exact trivial | refine AllLt.of ?_ | constructor))⟩) rfl rfl (Nat.le_refl _)
  have hrep : RepV σ2 aw13 (vCells aw13 none 0 (some ⟨g1, 0, none⟩) 1) := by
    simp only [aw13, RepV]
    exact ⟨none, 0, [], some ⟨g1, 0, none⟩, 1, _, rfl, SlAt.nil _ _ _ _, rfl, rfl, H2, ⟨_, _, rfl, R1.mono hle2, rfl⟩, by decide, by decide, by decide, by decide, fun k h => (by rw [List.mem_singleton.1 h]; decide)⟩
  (repeat (first | refine cj_seq ?_ | (refine cj_region ?_; refine oj_run TT rfl ?_) | refine oj_then ?_))
  refine oj_set 13 (.agg (vCells aw13 none 0 (some ⟨g1, 0, none⟩) 1)) rfl (vCells_lt _ _ _ _ _ _) (fun _ => rfl) ?_
  refine oj_callS rfl rfl rfl rfl rfl Tryd.call21 ⟨vCells_lt _ _ _ _ _ _, trivial, trivial⟩ (Shred_s σ2 aw13 _ 1 hrep (by decide)) fun v σ3 hle3 ⟨ao, cap, hv, H⟩ => ⟨.tup [.a (.v (.slice ao 4 cap)), .a (.v (.int .i64 0))], (by (repeat' (first | exact trivial | refine SV.lt_tup ?_ | constructor))), (by rw [hv, aw13_shred]; rfl), ?_⟩
  rw [aw13_shred] at H
  have H : SlAt σ3 ao 4 cap 11 (recRows aw13L) := H
  refine oj_run TT rfl ?_
  (repeat (first | refine cj_seq ?_ | (refine cj_region ?_; refine oj_run TT rfl ?_) | refine oj_then ?_))
  refine oj_callS rfl rfl rfl rfl rfl Tryd.call53 (by (repeat' (first | exact trivial | constructor))) (Paths_c σ3 aw13L aw13_ok (by decide) aw13_sound aw13_levels ao cap H) fun v σ4 hle4 ⟨ps, oo, oc, hv, HP, hps, hpe⟩ => ⟨.a (.v (.slice oo ps.length oc)), trivial, hv.symm, ?_⟩
  rw [aw13_paths] at hpe
  obtain ⟨a0, c0, a1, c1, a2, c2, a3, c3, rfl⟩ := aw13_list hpe
  refine oj_run TT rfl ?_
  (repeat (first | refine cj_seq ?_ | (refine cj_region ?_; refine oj_run TT rfl ?_) | refine oj_then ?_))
  refine oj_callS rfl rfl rfl rfl rfl Tryd.call48 (by (repeat' (first | exact trivial | refine AllLt.of ?_ | constructor))) (Add_c σ4 [] 0 none 0 (SlAt.nil _ _ _ _) (fun _ h => (by cases h)) _ oo oc HP hps 0 ⟨Nat.le_refl _, Nat.le_refl _, by decide, fun _ h => (by cases h)⟩ (by show 0 + 4 ≤ 1000000; decide)) fun v σ5 hle5 ⟨bo, bc, io, ic, hv, HX, HI⟩ => ⟨.tup [.agg [.v (.slice bo 3 bc), .v (.int .i64 3)], .a (.v (.slice io 4 ic))], (by (repeat' (first | exact trivial | refine AllLt.of ?_ | refine SV.lt_tup ?_ | constructor))), (by rw [hv, aw13_add]; rfl), ?_⟩
  have hok := addAll_ok (σ := σ5) _ (s := ⟨[], 0, []⟩) (fun _ h => (by cases h)) (fun p h => (hps p h).mono hle5)
  rw [aw13_add] at HX HI hok
  dsimp only at HX HI hok
  have hX2 : (lnRows (aw13X a0 c0 a1 c1 a2 c2))[(2 : Int).toNat]? = some (lnCells ⟨2, a2, c2, [aS, elemS], 2⟩) := rfl
  have hX3 := aw13_find a0 c0 a1 c1 a2 c2
  have hX4 := aw13_gsound a0 c0 a1 c1 a2 c2
  have hXl : (aw13X a0 c0 a1 c1 a2 c2).length = 3 := rfl
  generalize aw13X a0 c0 a1 c1 a2 c2 = X at *
  rw [hXl] at HX
  refine oj_run TT rfl ?_
  (repeat (first | refine cj_seq ?_ | (refine cj_region ?_; refine oj_run TT rfl ?_) | refine oj_then ?_))
  refine oj_split 27 rfl (fun h => ?_) (fun h => absurd h (by decide))
  refine oj_run TT rfl ?_
  refine oj_split 32 rfl (fun h => ?_) (fun h => absurd (show decide ((4 : Int) = 4) = false from h) (by decide))
  refine oj_run TT rfl ?_
  refine oj_split 38 rfl (fun h => ?_) (fun h => absurd h (by decide))
  refine oj_run TT rfl ?_
  refine oj_idx TT rfl rfl rfl rfl rfl rfl rfl rfl rfl HX (by decide) hX2 (oj_run TT rfl ?_)
  refine oj_split 46 rfl (fun h => ?_) (fun h => absurd (show decide ((2 : Int) = 2) = false from h) (by decide))
  refine oj_run TT rfl ?_
  refine oj_split 51 rfl (fun h => ?_) (fun h => absurd h (by decide))
  refine oj_run TT rfl ?_
  refine oj_idx TT rfl rfl rfl rfl rfl rfl rfl rfl rfl HI (by decide) (show (idRows [0, 1, 2, 2])[(3 : Int).toNat]? = some [.v (.int .i64 2)] from rfl) (oj_run TT rfl ?_)
  refine oj_split 57 rfl (fun h => ?_) (fun h => absurd h (by decide))
  refine oj_run TT rfl ?_
  refine oj_own 5 2 1 rfl (by (repeat' (first | exact trivial | refine AllLt.of ?_ | constructor))) rfl (by decide) fun g5 => ?_
  refine oj_seal 0 rfl rfl rfl fun σ6 hle6 hS => ?_
  have HS : SlAt σ6 (some ⟨g5, 0, none⟩) 2 2 1 (strRows [aS, elemS]) := hS.sl (rows := strRows [aS, elemS]) rfl (fun r hr => ⟨(strRows_all _ r hr).1, (strRows_all _ r hr).2.1⟩) rfl rfl (Nat.le_refl _)
  have HX := HX.mono hle6
  have hok := fun x h => (hok x h).mono hle6
  have HX : SlAt σ6 bo X.length bc 3 (lnRows X) := by rw [hXl]; exact HX
  have hf := FindGd_c σ6 X (by rw [hXl]; decide) bo bc 3 HX hok [aS, elemS] (some ⟨g5, 0, none⟩) 2 HS
  have hs := SoundGd_c σ6 X (by rw [hXl]; decide) bo bc 3 HX hok
  rw [hXl] at hf hs
  refine oj_callP rfl rfl rfl rfl rfl Tryd.call49 (by (repeat' (first | exact trivial | refine AllLt.of ?_ | constructor))) hf fun v hv => ⟨.a (.v (.int .i64 2)), trivial, (by rw [hv, hX3]; rfl), ?_⟩
  refine oj_run TT rfl ?_
  refine oj_split 63 rfl (fun h => ?_) (fun h => absurd h (by decide))
  refine oj_run TT rfl ?_
  refine oj_callP rfl rfl rfl rfl rfl Tryd.call52 (by (repeat' (first | exact trivial | refine AllLt.of ?_ | constructor))) hs fun v hv => ⟨.a .tt, trivial, (by rw [hv, hX4]; rfl), ?_⟩
  refine oj_run TT rfl ?_
  (repeat (first | refine oj_then ?_ | refine cj_ret ?_))
  refine nj_ret TT rfl fun β w' _ _ => ?_
  rfl
end Go.Sy
/- Regions whose orders fork: of two operations that change the world, either may come first, and both ways are gone. No program in sight. -/
namespace Go.Sy

/-- THE JUDGEMENT INSIDE A REGION: these are listed, n are to come. -/
structure GJ (cf : Cf) (ops : Array Oper) (U bef : List Nat) (n : Nat) (listed : Array Bool) (fst : Bool) (Q : Exit → Act → World → Prop) (σ : Snap) (env : Env) (hp : HP) (A : List AE) (nh : Nat) : Prop where
  run : Region.noSelect ops = true → Bd env hp nh → ∀ a β, StA cf env β a → (∃ w, StW cf σ hp A β w) → Closed ops listed → ∀ E0 : World → Prop, (∀ x, StW cf σ hp A β x → E0 x) →
    (fst = true → ∀ x, E0 x → StW cf σ hp A β x) → wpAnyC cf.P ops U Q n listed a E0 (fun w => StW cf σ hp A β w)
/-- The same, j being next. -/
structure GK (cf : Cf) (ops : Array Oper) (U bef : List Nat) (n : Nat) (listed : Array Bool) (j : Nat) (Q : Exit → Act → World → Prop) (σ : Snap) (env : Env) (hp : HP) (A : List AE) (nh : Nat) : Prop where
  run : Region.noSelect ops = true → Bd env hp nh → ∀ a β, StA cf env β a → (∃ w, StW cf σ hp A β w) → Closed ops listed → j ∈ Region.ready .any ops listed → ∀ E0 : World → Prop, (∀ x, StW cf σ hp A β x → E0 x) →
    stepC cf.P ops U Q j (wpAnyC cf.P ops U Q n (listed.setIfInBounds j true)) a E0 (fun w => StW cf σ hp A β w)

section
variable {cf : Cf} {Q : Exit → Act → World → Prop} {σ : Snap} {env : Env} {hp : HP} {A : List AE} {nh : Nat} {ops : Array Oper} {U bef : List Nat} {n : Nat} {listed : Array Bool} {fst : Bool}

theorem cj_drawG {id : Nat} (m : Nat) (U : List Nat) (hm : cf.P.follows .mixedOrders = true) (hs : Region.noSelect ops = true) (hn : ops.size = m)
    (h : GJ cf ops U [] m (Array.replicate m false) true Q σ env hp A nh) (hd : okRd cf.rd ops = true := by rfl) : CJ cf (.region id ops true) Q σ env hp A nh := by
  subst hn
  refine ⟨fun hb a β w ha hw => wpIn_region_any hm ?_⟩
  have hc : Closed ops (Array.replicate ops.size false) := ⟨by simp, fun j oj _ hl => by
    exfalso
    rcases Nat.lt_or_ge j ops.size with h | h
    · simp [h] at hl
    · simp [h] at hl⟩
  exact wpAnyIn_of_C (okRd_mem hd) _ _ _ _ _ _ hw.drew (h.run hs hb a β ha ⟨_, hw⟩ hc _ (fun _ h => h) (fun _ _ h => h))

/-- One value, told. -/
theorem gj_valT {i d : Nat} {o : Oper} (y : SV) (hi : ops[i]? = some o) (hr : (Region.ready .any ops listed).contains i = true) (hf : Region.free .any ops listed i = true) (hk : (U.contains i || fst) = true)
    (hd : o.dst = some d) (hg : guardVal (slotOf ops o) env = some true) (hN : Nat.blt d cf.N = true) (hlt : y.lt nh)
    (hrun : Bd env hp nh → ∀ a β, StA cf env β a → ∀ w, (U.contains i = false → StW cf σ hp A β w) → (execOp a.eval o).run cf.P w = .ok (.value (y.den β)) w)
    (k : GJ cf ops U (bef ++ [i]) n (listed.setIfInBounds i true) fst Q σ ((d, y) :: env) hp A nh) : GJ cf ops U bef (n + 1) listed fst Q σ env hp A nh := by
  refine ⟨fun hs hb a β ha hex hc E0 hE hF => ?_⟩
  have hN' : d < cf.N := by simpa [Nat.blt_eq] using hN
  have hr' : i ∈ Region.ready .any ops listed := by simpa using hr
  have hw : Region.wanted o (yielded ops a.tmps) = true := by rw [← wantedS_slotOf]; exact guardVal_ok ha hg
  have hrest := k.run hs (hb.put hlt d) _ β (ha.put hN' y) hex (hc.set hr') E0 hE hF
  refine wpAnyC_first hi (Region.noSelect_spec hs) n listed a E0 _ hc hE (Region.free_spec hi hf) hr' ⟨.inl ⟨hw, fun w hE0 => .inl ?_⟩, fun hu => .inl ⟨hw, fun w _ => .inl ?_⟩⟩ (by rw [hd]; exact hrest)
  · refine hrun hb a β ha w fun hu => ?_
    rw [hu, Bool.false_or] at hk
    exact hF hk w hE0
  · exact hrun hb a β ha w fun hu' => absurd (List.contains_iff_mem.2 hu) (by rw [hu']; simp)

/-- One value, reckoned. -/
theorem gj_val {i d : Nat} {o : Oper} {T : List (Nat × TI)} (hT : TTok cf.P T) {x : SV} (hi : ops[i]? = some o) (hr : (Region.ready .any ops listed).contains i = true) (hf : Region.free .any ops listed i = true)
    (hk : (bif U.contains i then !isLoad o.op else fst) = true) (hd : o.dst = some d) (hg : guardVal (slotOf ops o) env = some true) (hN : Nat.blt d cf.N = true) (h : stepOp T o.op env hp nh = some (.val x))
    (k : GJ cf ops U (bef ++ [i]) n (listed.setIfInBounds i true) fst Q σ ((d, x) :: env) hp A nh) : GJ cf ops U bef (n + 1) listed fst Q σ env hp A nh := by
  refine ⟨fun hs hb a β ha hex hc E0 hE hF => ?_⟩
  have hx : x.lt nh := (step_ok (o := o) hT ha hb h).1
  refine (gj_valT x hi hr hf ?_ hd hg hN hx (fun hb a β ha w hw => ?_) k).run hs hb a β ha hex hc E0 hE hF
  · cases hu : U.contains i <;> rw [hu] at hk
    · simpa using hk
    · rfl
  · refine (step_ok (o := o) hT ha hb h).2 w fun hl => ⟨σ, A, hw ?_⟩
    cases hu : U.contains i with
    | false => rfl
    | true => rw [hu, cond_true, hl] at hk; cases hk

/-- What is not wanted. -/
theorem gj_skip {i d : Nat} {o : Oper} (hi : ops[i]? = some o) (hr : (Region.ready .any ops listed).contains i = true) (hf : Region.free .any ops listed i = true) (hd : o.dst = some d) (hg : guardVal (slotOf ops o) env = some false)
    (hN : Nat.blt d cf.N = true) (k : GJ cf ops U (bef ++ [i]) n (listed.setIfInBounds i true) fst Q σ ((d, undefSV) :: env) hp A nh) : GJ cf ops U bef (n + 1) listed fst Q σ env hp A nh := by
  refine ⟨fun hs hb a β ha hex hc E0 hE hF => ?_⟩
  have hN' : d < cf.N := by simpa [Nat.blt_eq] using hN
  have hr' : i ∈ Region.ready .any ops listed := by simpa using hr
  have hw : Region.wanted o (yielded ops a.tmps) = false := by rw [← wantedS_slotOf]; exact guardVal_ok ha hg
  have hrest := k.run hs (hb.put (undef_lt nh) d) _ β (ha.put hN' undefSV) hex (hc.set hr') E0 hE hF
  exact wpAnyC_first hi (Region.noSelect_spec hs) n listed a E0 _ hc hE (Region.free_spec hi hf) hr' ⟨.inr ⟨hw, rfl⟩, fun _ => .inr ⟨hw, rfl⟩⟩ (by rw [hd]; exact hrest)

/-- All that may come next. -/
theorem gj_fork (js : List Nat) (hr : (Region.ready .any ops listed == js) = true) (hne : js.isEmpty = false) (k : ∀ j, j ∈ js → GK cf ops U bef n listed j Q σ env hp A nh) : GJ cf ops U bef (n + 1) listed fst Q σ env hp A nh := by
  refine ⟨fun hs hb a β ha hex hc E0 hE hF => ?_⟩
  have hr' := eq_of_beq hr
  refine ⟨fun h0 => ?_, fun j hj => (k j (by rw [← hr']; exact hj)).run hs hb a β ha hex hc hj E0 hE⟩
  rw [hr'] at h0
  subst h0
  cases hne
theorem gj_one {i : Nat} (hr : (Region.ready .any ops listed == [i]) = true) (k : GK cf ops U bef n listed i Q σ env hp A nh) : GJ cf ops U bef (n + 1) listed fst Q σ env hp A nh :=
  gj_fork [i] hr rfl fun j hj => by rw [List.mem_singleton] at hj; subst hj; exact k
theorem gj_two {i j : Nat} (hr : (Region.ready .any ops listed == [i, j]) = true) (ki : GK cf ops U bef n listed i Q σ env hp A nh) (kj : GK cf ops U bef n listed j Q σ env hp A nh) : GJ cf ops U bef (n + 1) listed fst Q σ env hp A nh :=
  gj_fork [i, j] hr rfl fun m hm => by
    simp only [List.mem_cons, List.not_mem_nil, or_false] at hm
    rcases hm with rfl | rfl
    · exact ki
    · exact kj

/-- A call of a function that changes nothing. -/
theorem gk_call {j d : Nat} {o : Oper} {f : FuncId} {ys : List SV} {Φ : Value → Snap → Prop} (hj : ops[j]? = some o) (hc : callee env o.op = some (f, ys)) (hd : o.dst = some d) (hg : guardVal (slotOf ops o) env = some true)
    (hN : Nat.blt d cf.N = true) (hcall : ∀ args w, (callFunc f args).run cf.P w = .ok (.enter f args) w) (hlt : LtAll ys) (hC : PureS cf.P f ys σ Φ)
    (k : ∀ v σ', σ.le σ' → Φ v σ' → ∃ y : SV, y.lt 0 ∧ y.den β0 = v ∧ GJ cf ops U (bef ++ [j]) n (listed.setIfInBounds j true) false Q σ' ((d, y) :: env) hp A nh) : GK cf ops U bef n listed j Q σ env hp A nh := by
  refine ⟨fun hs hb a β ha hex hcl hr E0 hE => ?_⟩
  have hN' : d < cf.N := by simpa [Nat.blt_eq] using hN
  have den0 : ∀ {y : SV}, y.lt 0 → y.den β = y.den β0 := fun hy => SV.den_congr (n := 0) (fun i hi => by omega) hy
  have hargs : (ys.map (SV.den β)).toArray = (ys.map (SV.den β0)).toArray := by
    rw [List.map_congr_left fun y hy => den0 (hlt.of y hy)]
  have hwant : Region.wanted o (yielded ops a.tmps) = true := by rw [← wantedS_slotOf]; exact guardVal_ok ha hg
  unfold stepC
  simp only [hj]
  rw [if_pos hwant]
  intro w hw
  unfold Oper.wq
  rw [callee_ok ha hc hcall]
  simp only [Oper.uponIn]
  rw [hargs]
  refine ⟨fun h => (by cases h), CallsIn.mono (callsIn_FR.2 (hC w hw.sealed)) fun e w' ⟨v, σ', he, h1, h2, h3, h4⟩ => ?_⟩
  subst he
  have hw' := hw.after h1 h2 h3
  have hσ : ∀ {b}, σ' b = none → σ b = none := fun hb => Snap.none_of_le h2.le hb
  have hsub : ∀ x, StW cf σ' hp A β x → StW cf σ hp A β x := by
    intro x hx
    refine ⟨hx.os, hx.tape, hx.output, hx.size, hx.fr, fun b o hb => hx.sealed b o (h2.le b o hb), hw.le, hw.grow, fun i e cs hi => ?_, hw.ro, hx.inj, fun i E hE => (hx.arr i E hE).weak hσ, hx.arrd, hx.arrh⟩
    obtain ⟨q1, q2, q3, q4⟩ := hx.loc i e cs hi
    exact ⟨q1, q2, hσ q3, q4⟩
  obtain ⟨y, hy, hyv, hk⟩ := k v σ' h2.le h4
  refine ⟨E0, _, hw', fun x hx => hE x (hsub x hx), .inl fun _ h => h, ?_⟩
  have := hk.run hs (hb.put (SV.lt_mono (Nat.zero_le _) hy) d) (a.put (some d) (y.den β)) β (ha.put hN' y) ⟨_, hw'⟩ (hcl.set hr) E0 (fun x hx => hE x (hsub x hx)) (fun h => by cases h)
  rw [hd, ← hyv, ← den0 hy]
  exact this
theorem gk_callP {j d : Nat} {o : Oper} {f : FuncId} {ys : List SV} {Φ : Value → Prop} (hj : ops[j]? = some o) (hc : callee env o.op = some (f, ys)) (hd : o.dst = some d) (hg : guardVal (slotOf ops o) env = some true)
    (hN : Nat.blt d cf.N = true) (hcall : ∀ args w, (callFunc f args).run cf.P w = .ok (.enter f args) w) (hlt : LtAll ys) (hC : PlainS cf.P f ys σ Φ)
    (k : ∀ v, Φ v → ∃ y : SV, y.lt 0 ∧ y.den β0 = v ∧ GJ cf ops U (bef ++ [j]) n (listed.setIfInBounds j true) false Q σ ((d, y) :: env) hp A nh) : GK cf ops U bef n listed j Q σ env hp A nh := by
  refine gk_call (Φ := fun v σ' => Φ v ∧ σ' = σ) hj hc hd hg hN hcall hlt ?_ fun v σ' _ ⟨hv, he⟩ => by subst he; exact k v hv
  intro w hs
  exact Calls.mono (hC w hs) fun e w' ⟨v, σ', he, h1, h2, h3, h4⟩ => ⟨v, σ, he, h1, ⟨Snap.le_refl σ, fun b hb => .inl hb⟩, fun b o hb => h3 b o (h2.le b o hb), h4, rfl⟩

/-- A new row. -/
theorem gk_new {j d : Nat} {o : Oper} {T : List (Nat × TI)} (hT : TTok cf.P T) {e : TypeId} {cs : List AT} {x : AT} (hj : ops[j]? = some o) (h : stepOp T o.op env hp nh = some (.new e cs x)) (hd : o.dst = some d) (hg : guardVal (slotOf ops o) env = some true)
    (hN : Nat.blt d cf.N = true) (k : GJ cf ops U (bef ++ [j]) n (listed.setIfInBounds j true) false Q σ ((d, .a x) :: env) ((nh, .loc e, cs) :: hp) A (nh + 1)) : GK cf ops U bef n listed j Q σ env hp A nh := by
  refine ⟨fun hs hb a β ha hex hcl hr E0 hE => ?_⟩
  have hN' : d < cf.N := by simpa [Nat.blt_eq] using hN
  have hwant : Region.wanted o (yielded ops a.tmps) = true := by rw [← wantedS_slotOf]; exact guardVal_ok ha hg
  obtain ⟨hcs, hx, hrun⟩ := step_ok (o := o) hT ha hb h
  have hxl : (SV.a x).lt (nh + 1) := by
    rcases hx with rfl | ⟨n, rfl⟩ <;> exact Nat.lt_succ_self nh
  unfold stepC
  simp only [hj]
  rw [if_pos hwant]
  intro w hw
  unfold Oper.wq
  rw [hrun w]
  have hw' := hw.alloc (e := e) hb hcs
  have hβ := upd_old β nh w
  have hg2 : ∀ {i k l}, hp.get i = some (k, l) → HP.get ((nh, HK.loc e, cs) :: hp) i = some (k, l) := by
    intro i k l hi
    have hlt := (hb.hp i k l hi).1
    rw [HP.get_cons, if_neg (by omega)]
    exact hi
  have keepS : ∀ w', StW cf σ ((nh, .loc e, cs) :: hp) A (upd β nh w) w' → StW cf σ hp A β w' := by
    intro w' s
    refine ⟨s.os, s.tape, s.output, s.size, s.fr, s.sealed, s.le, s.grow, fun i e' l hi => ?_, fun i l hi j c hc => ?_, fun i j e1 e2 l1 l2 hi hj heq => ?_, s.arr, s.arrd, fun i j E e' l hE hj => ?_⟩
    · obtain ⟨hlt, hl⟩ := hb.hp i _ l hi
      have := s.loc i e' l (hg2 hi)
      rw [hβ i hlt, AT.denL_congr hβ hl] at this
      exact this
    · obtain ⟨hlt, hl⟩ := hb.hp i _ l hi
      have := s.ro i l (hg2 hi) j c hc
      rw [hβ i hlt, AT.den_congr hβ (hl c (List.mem_of_getElem? hc))] at this
      exact this
    · have h1 := (hb.hp i _ l1 hi).1
      have h2 := (hb.hp j _ l2 hj).1
      exact s.inj i j e1 e2 l1 l2 (hg2 hi) (hg2 hj) (by rw [hβ i h1, hβ j h2]; exact heq)
    · have h1 := (hb.hp j _ l hj).1
      have := s.arrh i j E e' l hE (hg2 hj)
      rw [hβ j h1] at this
      exact this
  refine ⟨E0, _, hw', fun x hx => hE x (keepS x hx), .inl fun _ h => h, ?_⟩
  rw [hd]
  exact k.run hs ((hb.mono (Nat.le_succ nh)).row (Nat.lt_succ_self nh) (fun c hc => AT.lt_mono (Nat.le_succ nh) (hcs c hc)) |>.put hxl d) _ (upd β nh w) ((ha.congr hb hβ).put hN' (.a x)) ⟨_, hw'⟩ (hcl.set hr) E0 (fun x hx => hE x (keepS x hx)) (fun h => by cases h)

/-- The rest, in one order. -/
theorem gj_order (l : List (Nat × Tag)) (hl : (l.all fun p => decide (p.1 < ops.size)) = true) (hq : noQuiet (itemsOf ops l) = true) (ho : orderFrom ops U bef l listed = true) (h : OJ cf (itemsOf ops l) Q σ env hp A nh) :
    GJ cf ops U bef l.length listed fst Q σ env hp A nh := by
  refine ⟨fun hs hb a β ha hex hc E0 hE _ => ?_⟩
  have := run_wider hE _ _ a hq (h.run hb a β ha hex)
  exact run_order hs l bef listed a E0 _ hc hE (fun p hp => by simpa using List.all_eq_true.1 hl p hp) ho this

theorem gj_arith {i d : Nat} {o : Oper} {op : BinOp} {x y : Operand} {xt yt : TypeId} {kk : IntKind} {m k' : Int} (r : Int) (hop : o.op = .binOp op xt x y yt) (hi : ops[i]? = some o) (hr : (Region.ready .any ops listed).contains i = true) (hf : Region.free .any ops listed i = true) (hk : (U.contains i || fst) = true)
    (hd : o.dst = some d) (hg : guardVal (slotOf ops o) env = some true) (hN : Nat.blt d cf.N = true) (hx : evalO env x = some (.a (.v (.int kk m)))) (hy : evalO env y = some (.a (.v (.int kk k'))))
    (hrun : ∀ w P, (binOp op xt (.int kk m) (.int kk k')).run P w = .ok (.int kk r) w)
    (k : GJ cf ops U (bef ++ [i]) n (listed.setIfInBounds i true) fst Q σ ((d, .a (.v (.int kk r))) :: env) hp A nh) : GJ cf ops U bef (n + 1) listed fst Q σ env hp A nh := by
  refine gj_valT (.a (.v (.int kk r))) hi hr hf hk hd hg hN trivial (fun _ a β ha w _ => ?_) k
  have h1 : a.eval x = .int kk m := evalO_eval ha hx
  have h2 : a.eval y = .int kk k' := evalO_eval ha hy
  simp only [execOp, hop, h1, h2, eqGuard_at_int, Sem.run_bind, Sem.run_pure, Result.andThen_ok, hrun]
  rfl
theorem gj_add {i d : Nat} {o : Oper} {x y : Operand} {xt yt : TypeId} {m k' : Int} (hop : o.op = .binOp .add xt x y yt) (hi : ops[i]? = some o) (hr : (Region.ready .any ops listed).contains i = true) (hf : Region.free .any ops listed i = true) (hk : (U.contains i || fst) = true)
    (hd : o.dst = some d) (hg : guardVal (slotOf ops o) env = some true) (hN : Nat.blt d cf.N = true) (hx : evalO env x = some (.a (.v (.int .i64 m)))) (hy : evalO env y = some (.a (.v (.int .i64 k')))) (hb : -9223372036854775808 ≤ m + k' ∧ m + k' ≤ 9223372036854775807)
    (k : GJ cf ops U (bef ++ [i]) n (listed.setIfInBounds i true) fst Q σ ((d, .a (.v (.int .i64 (m + k')))) :: env) hp A nh) : GJ cf ops U bef (n + 1) listed fst Q σ env hp A nh :=
  gj_arith _ hop hi hr hf hk hd hg hN hx hy (run_add (IntWalk.i64_in _ hb)) k
theorem gj_minus {i d : Nat} {o : Oper} {x y : Operand} {xt yt : TypeId} {m k' : Int} (hop : o.op = .binOp .sub xt x y yt) (hi : ops[i]? = some o) (hr : (Region.ready .any ops listed).contains i = true) (hf : Region.free .any ops listed i = true) (hk : (U.contains i || fst) = true)
    (hd : o.dst = some d) (hg : guardVal (slotOf ops o) env = some true) (hN : Nat.blt d cf.N = true) (hx : evalO env x = some (.a (.v (.int .i64 m)))) (hy : evalO env y = some (.a (.v (.int .i64 k')))) (hb : -9223372036854775808 ≤ m - k' ∧ m - k' ≤ 9223372036854775807)
    (k : GJ cf ops U (bef ++ [i]) n (listed.setIfInBounds i true) fst Q σ ((d, .a (.v (.int .i64 (m - k')))) :: env) hp A nh) : GJ cf ops U bef (n + 1) listed fst Q σ env hp A nh :=
  gj_arith _ hop hi hr hf hk hd hg hN hx hy (run_sub (IntWalk.i64_in _ hb)) k
theorem gj_slice {i d : Nat} {o : Oper} {x : Operand} {lo hi' : Option Operand} {vl vh : Option Value} {t e : TypeId} {T : List (Nat × TI)} (hT : TTok cf.P T) {ti te : TI} {ao : Option Addr} {m cap : Nat} (l h : Nat) (hop : o.op = .slice t x lo hi' none) (hi : ops[i]? = some o) (hr : (Region.ready .any ops listed).contains i = true) (hf : Region.free .any ops listed i = true) (hk : (U.contains i || fst) = true)
    (hd : o.dst = some d) (hg : guardVal (slotOf ops o) env = some true) (hN : Nat.blt d cf.N = true) (hx : evalO env x = some (.a (.v (.slice ao m cap)))) (hlo : optV env lo = some vl) (hhi : optV env hi' = some vh)
    (ht : tget T t = some ti) (hkd : ti.kind = .slice e) (hte : tget T e = some te) (hl' : vl = none ∧ l = 0 ∨ ∃ k m, vl = some (.int k m) ∧ m = (l : Int)) (hh' : vh = none ∧ h = m ∨ ∃ k m, vh = some (.int k m) ∧ m = (h : Int)) (hlh : l ≤ h) (hhc : h ≤ cap) (hnc : m ≤ cap)
    (k : GJ cf ops U (bef ++ [i]) n (listed.setIfInBounds i true) fst Q σ ((d, .a (.v (.slice (if cap = l then ao else ao.map (·.add (l * te.size))) (h - l) (cap - l)))) :: env) hp A nh) : GJ cf ops U bef (n + 1) listed fst Q σ env hp A nh := by
  refine gj_valT (.a (.v (.slice (if cap = l then ao else ao.map (·.add (l * te.size))) (h - l) (cap - l)))) hi hr hf hk hd hg hN trivial (fun _ a β ha w _ => ?_) k
  obtain ⟨i2, d2, z2, hs2⟩ := tiOf_spec (hT _ _ ht)
  obtain ⟨i3, d3, z3, hs3⟩ := tiOf_spec (hT _ _ hte)
  have h1 := hs2.kind
  have hun : cf.P.underlying t = some (.slice e) := by
    rw [hkd] at h1
    have h2 := hs2.und
    cases d2 <;> first
      | (simp only [kindD, TK.slice.injEq] at h1; subst h1; exact h2)
      | (simp only [kindD] at h1; cases h1)
  have h2 : a.eval x = .slice ao m cap := evalO_eval ha hx
  simp only [execOp, hop, h2, optV_ok ha hlo, optV_ok ha hhi, Option.map_none, Instr.sliceAt, Instr.slice, Sem.run_bind, run_underlying hun, Result.andThen_ok, run_sliceBounds hl' hh' hlh hhc hnc, run_size hs3.info, hs3.size, Sem.run_pure]
  rfl
end
end Go.Sy
/- Plain laws on summaries that paths are counted in. No program in sight. -/
namespace Go.Sy

theorem findG_map {α β : Type} (q : β → Bool) (f : α → β) : ∀ (l : List α) (k : Nat), findG q (l.map f) k = findG (fun x => q (f x)) l k
  | [], _ => rfl
  | x :: l, k => by simp only [List.map_cons, findG, findG_map q f l]
theorem findG_ge {α : Type} (q : α → Bool) : ∀ (l : List α) (k : Nat), findG q l k = -1 ∨ (k : Int) ≤ findG q l k
  | [], _ => .inl rfl
  | x :: l, k => by
    simp only [findG]
    split
    · exact .inr (Int.le_refl _)
    · rcases findG_ge q l (k + 1) with h | h
      · exact .inl h
      · exact .inr (by omega)
theorem findG_app {α : Type} (q : α → Bool) : ∀ (l m : List α) (k : Nat), findG q (l ++ m) k = if findG q l k < 0 then findG q m (k + l.length) else findG q l k
  | [], m, k => by simp [findG]
  | x :: l, m, k => by
    simp only [List.cons_append, findG, List.length_cons]
    split
    · rw [if_neg (by omega)]
    · rw [findG_app q l m (k + 1), show k + 1 + l.length = k + (l.length + 1) by omega]
theorem findG_neg {α : Type} {q : α → Bool} : ∀ {l : List α} {k : Nat}, findG q l k < 0 → ∀ x ∈ l, q x = false
  | x :: l, k, h, y, hy => by
    simp only [findG] at h
    split at h
    · omega
    · rename_i hx
      cases hy with
      | head => simpa using hx
      | tail _ hy => exact findG_neg h y hy
theorem findG_some {α : Type} {q : α → Bool} : ∀ {l : List α} {k : Nat} {j : Nat}, findG q l k = (k + j : Nat) → ∃ x, l[j]? = some x ∧ q x = true
  | x :: l, k, j, h => by
    simp only [findG] at h
    split at h
    · rename_i hx
      have : j = 0 := by omega
      subst this
      exact ⟨x, rfl, hx⟩
    · have hb := findG_ge q l (k + 1)
      obtain ⟨j, rfl⟩ : ∃ i, j = i + 1 := ⟨j - 1, by omega⟩
      obtain ⟨y, h1, h2⟩ := findG_some (l := l) (k := k + 1) (j := j) (by rw [h]; congr 1; omega)
      exact ⟨y, by simpa using h1, h2⟩
  | [], k, j, h => by simp only [findG] at h; omega

theorem lineG_st (xs : List GLine) (s : List ByteArray) : lineG xs s = findG (fun t => decide (t = s)) (xs.map GLine.st) 0 := by
  rw [findG_map]
  rfl
theorem lineG_at {xs : List GLine} {s : List ByteArray} {j : Nat} (h : lineG xs s = j) : ∃ x, xs[j]? = some x ∧ x.st = s := by
  obtain ⟨x, h1, h2⟩ := findG_some (k := 0) (j := j) (by rw [Nat.zero_add]; exact h)
  exact ⟨x, h1, of_decide_eq_true h2⟩

theorem addOne_new {s : GSt} {p : SRow} (h : lineG s.xs p.ss < 0) : addOne s p = ⟨s.xs ++ [(newLn s.next p).more], s.next + 1, s.ids ++ [s.next]⟩ := if_pos h
theorem addOne_old {s : GSt} {p : SRow} {j : Nat} {x : GLine} (h : lineG s.xs p.ss = j) (hx : s.xs[j]? = some x) : addOne s p = ⟨s.xs.set j x.more, s.next, s.ids ++ [x.id]⟩ := by
  unfold addOne
  rw [if_neg (by omega), h, Int.toNat_natCast, hx]
theorem map_st_set {xs : List GLine} {j : Nat} {x : GLine} (hx : xs[j]? = some x) : (xs.set j x.more).map GLine.st = xs.map GLine.st := by
  rw [List.map_set]
  apply List.ext_getElem?
  intro i
  rw [List.getElem?_set]
  split
  · rename_i h
    subst h
    have hlt := (List.getElem?_eq_some_iff.1 hx).1
    rw [if_pos (by simpa using hlt), List.getElem?_map, hx]
    rfl
  · rfl

structure GInv (s : GSt) : Prop where
  next : s.next = s.xs.length
  at_ : ∀ (j : Nat) x, s.xs[j]? = some x → x.id = j ∧ 1 ≤ x.cnt ∧ lineG s.xs x.st = j

/-- What one more path does. -/
theorem addOne_spec {s : GSt} (h : GInv s) (p : SRow) : GInv (addOne s p) ∧ (∀ (j : Nat) x, s.xs[j]? = some x → ∃ y, (addOne s p).xs[j]? = some y ∧ y.st = x.st ∧ y.id = x.id) ∧
    ∃ (j : Nat) (y : GLine), (addOne s p).xs[j]? = some y ∧ y.st = p.ss ∧ (addOne s p).ids = s.ids ++ [y.id] := by
  have hbd := lineG_bd s.xs p.ss
  by_cases hn : lineG s.xs p.ss < 0
  · rw [addOne_new hn]
    refine ⟨⟨by rw [h.next]; simp, fun j x hx => ?_⟩, fun j x hx => ⟨x, ?_, rfl, rfl⟩, s.xs.length, (newLn s.next p).more, by simp, rfl, rfl⟩
    · dsimp only at hx ⊢
      by_cases hj : j < s.xs.length
      · rw [List.getElem?_append_left hj] at hx
        obtain ⟨h1, h2, h3⟩ := h.at_ j x hx
        refine ⟨h1, h2, ?_⟩
        unfold lineG at h3 ⊢
        rw [findG_app, if_neg (by omega), h3]
      · rw [List.getElem?_append_right (by omega)] at hx
        have hj0 : j - s.xs.length = 0 := by
          have := (List.getElem?_eq_some_iff.1 hx).1
          simpa using this
        rw [hj0] at hx
        simp only [List.getElem?_cons_zero, Option.some.injEq] at hx
        subst hx
        have hjl : j = s.xs.length := by omega
        subst hjl
        refine ⟨h.next, Int.le_refl _, ?_⟩
        unfold lineG at hn ⊢
        rw [findG_app]
        show (if findG (fun x => decide (x.st = p.ss)) s.xs 0 < 0 then findG (fun x => decide (x.st = p.ss)) [(newLn s.next p).more] (0 + s.xs.length) else _) = _
        rw [if_pos hn]
        simp only [findG]
        rw [if_pos (show decide ((newLn s.next p).more.st = p.ss) = true from decide_eq_true rfl), Nat.zero_add]
    · dsimp only
      rw [List.getElem?_append_left (List.getElem?_eq_some_iff.1 hx).1]
      exact hx
  · obtain ⟨j, hj⟩ : ∃ j : Nat, lineG s.xs p.ss = j := ⟨(lineG s.xs p.ss).toNat, by omega⟩
    obtain ⟨x, hx, hst⟩ := lineG_at hj
    have hlt := (List.getElem?_eq_some_iff.1 hx).1
    rw [addOne_old hj hx]
    have hl : ∀ t, lineG (s.xs.set j x.more) t = lineG s.xs t := fun t => by rw [lineG_st, lineG_st, map_st_set hx]
    have hself : (s.xs.set j x.more)[j]? = some x.more := by rw [List.getElem?_set, if_pos rfl, if_pos hlt]
    refine ⟨⟨by dsimp only; rw [List.length_set]; exact h.next, fun i y hy => ?_⟩, fun i y hy => ?_, j, x.more, hself, hst, rfl⟩
    · dsimp only at hy ⊢
      rw [hl]
      by_cases hij : j = i
      · subst hij
        rw [hself] at hy
        obtain rfl := Option.some.inj hy
        obtain ⟨h1, h2, h3⟩ := h.at_ j x hx
        exact ⟨h1, by show 1 ≤ x.cnt + 1; omega, h3⟩
      · rw [List.getElem?_set, if_neg hij] at hy
        exact h.at_ i y hy
    · dsimp only
      by_cases hij : j = i
      · subst hij
        rw [hx] at hy
        obtain rfl := Option.some.inj hy
        exact ⟨x.more, hself, rfl, rfl⟩
      · exact ⟨y, by rw [List.getElem?_set, if_neg hij]; exact hy, rfl, rfl⟩

theorem addAll_inv : ∀ (ps : List SRow) {s : GSt}, GInv s → GInv (addAll s ps) ∧ (∀ (j : Nat) x, s.xs[j]? = some x → ∃ y, (addAll s ps).xs[j]? = some y ∧ y.st = x.st ∧ y.id = x.id) ∧
    ∃ t, (addAll s ps).ids = s.ids ++ t ∧ t.length = ps.length
  | [], s, h => ⟨h, fun j x hx => ⟨x, hx, rfl, rfl⟩, [], by rw [List.append_nil]; rfl, rfl⟩
  | p :: ps, s, h => by
    obtain ⟨h1, h2, j0, y0, h3, h4, h5⟩ := addOne_spec h p
    obtain ⟨g1, g2, t, g3, g4⟩ := addAll_inv ps h1
    refine ⟨g1, fun j x hx => ?_, y0.id :: t, ?_, by simp [g4]⟩
    · obtain ⟨y, a1, a2, a3⟩ := h2 j x hx
      obtain ⟨z, b1, b2, b3⟩ := g2 j y a1
      exact ⟨z, b1, b2.trans a2, b3.trans a3⟩
    · show (addAll (addOne s p) ps).ids = _
      rw [g3, h5, List.append_assoc]
      rfl
theorem inv0 : GInv ⟨[], 0, []⟩ := ⟨rfl, fun j x hx => by simp at hx⟩

theorem findId_of {s : GSt} (h : GInv s) {j : Nat} {y : GLine} (hy : s.xs[j]? = some y) : findIdG s.xs y.st = y.id := by
  unfold findIdG
  rw [(h.at_ j y hy).2.2, Int.toNat_natCast, hy]
  dsimp only
  rw [if_neg (by omega)]

theorem addOne_ids (xs : List GLine) (next : Int) (ids : List Int) (p : SRow) : (addOne ⟨xs, next, ids⟩ p).xs = (addOne ⟨xs, next, []⟩ p).xs ∧ (addOne ⟨xs, next, ids⟩ p).next = (addOne ⟨xs, next, []⟩ p).next := by
  unfold addOne
  dsimp only
  split
  · exact ⟨rfl, rfl⟩
  · split <;> exact ⟨rfl, rfl⟩

/-- One of the paths: its line. -/
theorem adds_at (ps : List SRow) {k : Nat} {p : SRow} (hp : ps[k]? = some p) : ∃ id, (addAll ⟨[], 0, []⟩ ps).ids[k]? = some id ∧ findIdG (addAll ⟨[], 0, []⟩ ps).xs p.ss = id ∧
    (addOne ⟨(addAll ⟨[], 0, []⟩ (ps.take k)).xs, (addAll ⟨[], 0, []⟩ (ps.take k)).next, []⟩ p).ids = [id] := by
  have hlt := (List.getElem?_eq_some_iff.1 hp).1
  have hsp : ps = ps.take k ++ p :: ps.drop (k + 1) := by
    have := (List.getElem?_eq_some_iff.1 hp).2
    rw [← this, ← List.drop_eq_getElem_cons hlt, List.take_append_drop]
  obtain ⟨h1, -, t, h3, h4⟩ := addAll_inv (ps.take k) inv0
  have hG : addAll ⟨[], 0, []⟩ ps = addAll (addOne (addAll ⟨[], 0, []⟩ (ps.take k)) p) (ps.drop (k + 1)) := by
    conv => lhs; rw [hsp]
    unfold addAll
    rw [List.foldl_append]
    rfl
  rw [hG]
  generalize addAll ⟨[], 0, []⟩ (ps.take k) = s at *
  have h1' : GInv ⟨s.xs, s.next, []⟩ := ⟨h1.next, h1.at_⟩
  obtain ⟨g1, g2, j, y, g3, g4, g5⟩ := addOne_spec h1 p
  obtain ⟨g1', -, j', y', g3', g4', g5'⟩ := addOne_spec h1' p
  obtain ⟨f1, f2, u, f3, f4⟩ := addAll_inv (ps.drop (k + 1)) g1
  obtain ⟨z, z1, z2, z3⟩ := f2 j y g3
  have hids := addOne_ids s.xs s.next s.ids p
  have hyy : y'.id = y.id := by
    rw [← hids.1] at g3'
    have a1 := (g1.at_ j' y' g3').2.2
    have a2 := (g1.at_ j y g3).2.2
    rw [g4'] at a1
    rw [g4] at a2
    have : j' = j := by omega
    subst this
    rw [g3] at g3'
    rw [Option.some.inj g3']
  refine ⟨y.id, ?_, ?_, ?_⟩
  · rw [f3, g5, h3, List.nil_append]
    have hk : t.length = k := by rw [h4, List.length_take]; omega
    rw [List.getElem?_append_left (by simp; omega), List.getElem?_append_right (by omega), hk, Nat.sub_self]
    rfl
  · rw [← g4, ← z2, findId_of f1 z1, z3]
  · rw [g5', hyy]
    rfl

theorem snd_of {s : GSt} (h : GInv s) : ∀ (l : List GLine) (k : Nat), s.xs.drop k = l → sndFrom s.xs s.next l k ((k : Int) - 1) = true
  | [], _, _ => rfl
  | x :: l, k, hl => by
    have hx : s.xs[k]? = some x := by
      have : (s.xs.drop k)[0]? = some x := by rw [hl]; rfl
      simpa using this
    have hlt := (List.getElem?_eq_some_iff.1 hx).1
    obtain ⟨h1, h2, h3⟩ := h.at_ k x hx
    have hn := h.next
    rw [sndFrom, if_neg (by omega), if_neg (by omega), if_neg (by omega), if_pos h3, h1]
    have := snd_of h l (k + 1) (by rw [← List.drop_drop, hl]; rfl)
    rw [show (((k + 1 : Nat) : Int) - 1) = (k : Int) by omega] at this
    exact this
/-- A summary that paths are counted in is sound. -/
theorem sound_of {s : GSt} (h : GInv s) : soundGd s.xs s.next = true := snd_of h s.xs 0 rfl
theorem adds_len (ps : List SRow) : (addAll ⟨[], 0, []⟩ ps).ids.length = ps.length := by
  obtain ⟨-, -, t, h1, h2⟩ := addAll_inv ps inv0
  rw [h1, List.nil_append, h2]
end Go.Sy
namespace Go.Sy
open Go.Proofs

/-! ### GuideAdds -/

structure GaS where
  k : Nat
  ho : Option Addr
  hc : Nat
structure GaR where
  s : Snap
  ho : Option Addr
  hc : Nat
  io : Option Addr
  ic : Nat

set_option maxRecDepth 100000 in
set_option maxHeartbeats 1000000 in
theorem GuideAdds_c (σ : Snap) (ps : List SRow) (po : Option Addr) (pc : Nat) (P : SlAt σ po ps.length pc 1 (srRows ps)) (hps : ∀ p ∈ ps, SrOk σ p) (hlen : ps.length ≤ 140737488355328) :
    PlainS Tryd.prog 9 [.a (.v (.slice po ps.length pc))] σ (fun v => v = .bool true) := by
  refine enter_p Tryd.func9 rfl rfl (by (repeat' (first | exact trivial | constructor))) fun w => ?_
  (repeat (first | refine cj_seq ?_ | (refine cj_region ?_; refine oj_run TT rfl ?_) | refine oj_then ?_))
  refine oj_callP rfl rfl rfl rfl rfl Tryd.call46 (by (repeat' exact trivial)) (awake13_c σ) fun v hv => ⟨.a .tt, trivial, hv.symm, ?_⟩
  refine oj_run TT rfl ?_
  (repeat (first | refine cj_seq ?_ | (refine cj_region ?_; refine oj_run TT rfl ?_) | refine oj_then ?_))
  refine oj_callP rfl rfl rfl rfl rfl Tryd.call47 (by (repeat' (first | exact trivial | constructor))) (Few13_c σ ps hlen po pc P hps 40) fun v ⟨fb, hv, hfew⟩ => ⟨.a (.b fb), trivial, hv.symm, ?_⟩
  refine oj_run TT rfl ?_
  (repeat refine oj_then ?_)
  refine cj_if rfl (fun h => ?_) (fun h => ?_)
  · (repeat (first | refine cj_seq ?_ | (refine cj_region ?_; refine oj_run TT rfl ?_) | refine oj_then ?_ | refine cj_ret ?_ | refine nj_then_ret ?_))
    refine nj_ret TT rfl fun β w' _ _ => ?_
    rfl
  have hpl : ps.length ≤ 40 := by
    have := hfew (by simpa using h)
    omega
  (repeat (first | refine cj_seq ?_ | (refine cj_region ?_; refine oj_run TT rfl ?_) | refine cj_skip ?_ | refine nj_then ?_))
  have hfit0 : GFit 0 ⟨[], 0, []⟩ := ⟨Nat.le_refl _, Nat.le_refl _, by decide, fun _ h => (by cases h)⟩
  refine oj_callS rfl rfl rfl rfl rfl Tryd.call48 (by (repeat' (first | exact trivial | refine AllLt.of ?_ | constructor))) (Add_c σ [] 0 none 0 (SlAt.nil _ _ _ _) (fun _ h => (by cases h)) ps po pc P hps 0 hfit0 (by omega)) fun v σ1 hle1 ⟨go, gc, ido, idc, hv, HG, HD⟩ => ⟨.tup [.agg [.v (.slice go (addAll ⟨[], 0, []⟩ ps).xs.length gc), .v (.int .i64 (addAll ⟨[], 0, []⟩ ps).next)], .a (.v (.slice ido (addAll ⟨[], 0, []⟩ ps).ids.length idc))], (by (repeat' (first | exact trivial | refine AllLt.of ?_ | refine SV.lt_tup ?_ | constructor))), hv.symm, ?_⟩
  have hGok := addAll_ok (σ := σ1) ps (s := ⟨[], 0, []⟩) (fun _ h => (by cases h)) (fun p h => (hps p h).mono hle1)
  have hGfit := addAll_fit ps hfit0
  obtain ⟨hGinv, -⟩ := addAll_inv ps inv0
  have hGids := adds_len ps
  have hGat := @adds_at ps
  have hGn := hGfit.next
  have hGx := hGfit.xs
  refine oj_run TT rfl ?_
  (repeat (first | refine cj_seq ?_ | (refine cj_region ?_; refine oj_run TT rfl ?_) | refine oj_then ?_ | refine cj_block ?_))
  refine cj_cutB (fun (t : Snap × GaS) => t.1) (fun t => [(0, .a (.v (.slice po ps.length pc))), (3, .a .tt), (4, .a (.p 0 0)), (5, .a (.v (.slice ido (addAll ⟨[], 0, []⟩ ps).ids.length idc))), (6, .a (.p 1 0))])
    (fun t => [(0, .loc 71, [.v (.slice go (addAll ⟨[], 0, []⟩ ps).xs.length gc), .v (.int .i64 (addAll ⟨[], 0, []⟩ ps).next)]), (1, .loc 71, [.v (.slice t.2.ho (addAll ⟨[], 0, []⟩ ps).xs.length t.2.hc), .v (.int .i64 (addAll ⟨[], 0, []⟩ ps).next)])]) (fun _ => []) 2
    (fun t => σ1.le t.1 ∧ SlAt t.1 t.2.ho (addAll ⟨[], 0, []⟩ ps).xs.length t.2.hc 3 (lnRows (addAll ⟨[], 0, []⟩ ps).xs)) ?_ (fun t ht => ?_)
  rotate_left
  · obtain ⟨s, k, ho, hc⟩ := t
    obtain ⟨hle, HH⟩ := ht
    dsimp only at hle HH ⊢
    have HG := HG.mono hle
    have hGok := fun x h => (hGok x h).mono hle
    clear hGat
    generalize addAll ⟨[], 0, []⟩ ps = G at *
    have hnx := hGinv.next
    rw [hGids]
    (repeat refine cj_seq ?_)
    refine cj_draw [(0,.pure),(1,.pure),(2,.pure),(3,.pure),(4,.pure),(5,.pure),(6,.pure),(7,.pure),(8,.pure),(9,.quiet),(11,.quiet),(10,.keep),(12,.keep),(13,.keep),(14,.pure),(15,.pure),(16,.quiet),(17,.keep),(18,.pure),(19,.pure),(20,.pure),(21,.quiet),(22,.pure),(23,.quiet),(24,.pure),(25,.pure),(26,.pure),(27,.pure)] mixed (by kernel_rfl) (oj_run TT rfl ?_)
    refine oj_split 79 rfl (fun _ => ?_) (fun h => absurd (show decide ((ps.length : Int) = ps.length) = false from h) (by simp))
    refine oj_run TT rfl ?_
    refine oj_callS rfl rfl rfl rfl rfl Tryd.call51 (by (repeat' (first | exact trivial | refine AllLt.of ?_ | constructor))) (theirsGd_c s G.xs (by omega) go gc G.next HG) fun v σ2 hle2 ⟨bo, bc, hv, HB⟩ => ⟨.agg [.v (.slice bo G.xs.length bc), .v (.int .i64 G.next)], (by (repeat' (first | exact trivial | refine AllLt.of ?_ | constructor))), hv.symm, ?_⟩
    have HH := HH.mono hle2
    have HG := HG.mono hle2
    have hGok := fun x h => (hGok x h).mono hle2
    refine oj_run TT rfl ?_
    refine oj_callS rfl rfl rfl rfl rfl Tryd.call51 (by (repeat' (first | exact trivial | refine AllLt.of ?_ | constructor))) (theirsGd_c σ2 G.xs (by omega) ho hc G.next HH) fun v σ3 hle3 ⟨co, cc, hv, HC⟩ => ⟨.agg [.v (.slice co G.xs.length cc), .v (.int .i64 G.next)], (by (repeat' (first | exact trivial | refine AllLt.of ?_ | constructor))), hv.symm, ?_⟩
    have HB := HB.mono hle3
    have HG := HG.mono hle3
    have hGok := fun x h => (hGok x h).mono hle3
    refine oj_run TT rfl ?_
    refine oj_callP rfl rfl rfl rfl rfl Tryd.call50 (by (repeat' (first | exact trivial | refine AllLt.of ?_ | constructor))) (SameGd_c σ3 G.xs G.xs (by omega) bo co bc cc G.next G.next HB HC hGok hGok) fun v hv => ⟨.a .tt, trivial, (by rw [hv, sameLn_refl, decide_eq_true rfl]; rfl), ?_⟩
    refine oj_run TT rfl ?_
    refine oj_callP rfl rfl rfl rfl rfl Tryd.call52 (by (repeat' (first | exact trivial | refine AllLt.of ?_ | constructor))) (SoundGd_c σ3 G.xs (by omega) go gc G.next HG hGok) fun v hv => ⟨.a .tt, trivial, (by rw [hv, sound_of hGinv]; rfl), ?_⟩
    refine oj_run TT rfl ?_
    (repeat (first | refine oj_then ?_ | refine cj_ret ?_))
    refine nj_ret TT rfl fun β w' _ _ => ?_
    exact congrArg Value.bool (decide_eq_true hnx)
  refine cj_loop2 (fun (s : Snap) (_ : GaS) => s) (fun _ t => [(0, .a (.v (.slice po ps.length pc))), (3, .a .tt), (4, .a (.p 0 0)), (5, .a (.v (.slice ido (addAll ⟨[], 0, []⟩ ps).ids.length idc))), (6, .a (.p 1 0)), (7, .a (.v (.int .i64 (t.k : Nat))))])
    (fun _ t => [(0, .loc 71, [.v (.slice go (addAll ⟨[], 0, []⟩ ps).xs.length gc), .v (.int .i64 (addAll ⟨[], 0, []⟩ ps).next)]), (1, .loc 71, [.v (.slice t.ho (addAll ⟨[], 0, []⟩ (ps.take t.k)).xs.length t.hc), .v (.int .i64 (addAll ⟨[], 0, []⟩ (ps.take t.k)).next)])]) (fun _ _ => []) 2
    (fun s t => σ1.le s ∧ t.k ≤ ps.length ∧ SlAt s t.ho (addAll ⟨[], 0, []⟩ (ps.take t.k)).xs.length t.hc 3 (lnRows (addAll ⟨[], 0, []⟩ (ps.take t.k)).xs)) (fun _ t => ps.length - t.k) σ1 ⟨0, none, 0⟩ ⟨Snap.le_refl _, Nat.zero_le _, SlAt.nil _ _ _ _⟩ rfl (by (repeat (first | exact trivial | refine And.intro rfl ?_))) (by (repeat (first | exact trivial | refine And.intro rfl ?_))) rfl (by (repeat' (first | exact trivial | exact Nat.le_of_ble_eq_true rfl | constructor))) (by (repeat' (first | exact trivial | exact Nat.le_of_ble_eq_true rfl | refine AllLt.of ?_ | constructor))) fun s ⟨k, ho, hc⟩ ⟨hle, hk, HH⟩ => ?_
  dsimp only at hk HH ⊢
  (repeat (first | refine cj_seq ?_ | (refine cj_region ?_; refine oj_run TT rfl ?_) | refine oj_then ?_))
  refine cj_if rfl (fun h => ?_) (fun h => ?_)
  rotate_left
  · have hk0 : k = ps.length := by have := of_decide_eq_false h; omega
    subst hk0
    rw [List.take_length] at HH ⊢
    (repeat (first | refine cj_exit ?_ | refine nj_then_exit ?_ | refine nj_block_out ?_))
    refine nj_again (s, (⟨ps.length, ho, hc⟩ : GaS)) ⟨hle, HH⟩ Nat.zero_lt_one rfl (by (repeat (first | exact trivial | refine And.intro rfl ?_))) (by (repeat (first | exact trivial | refine And.intro rfl ?_))) rfl (by (repeat' (first | exact trivial | exact Nat.le_of_ble_eq_true rfl | constructor))) (by (repeat' (first | exact trivial | exact Nat.le_of_ble_eq_true rfl | refine AllLt.of ?_ | constructor)))
  have hkl : k < ps.length := by have := of_decide_eq_true h; omega
  have hpk : ps[k]? = some ps[k] := List.getElem?_eq_getElem hkl
  have hrow := srRows_get hpk
  obtain ⟨id, hid, hfind, hone⟩ := hGat hpk
  have hpo := (hps ps[k] (List.getElem_mem hkl)).mono (Snap.le_trans hle1 hle)
  have hnext : addAll ⟨[], 0, []⟩ (ps.take (k + 1)) = addOne (addAll ⟨[], 0, []⟩ (ps.take k)) ps[k] := by
    rw [List.take_succ_eq_append_getElem hkl]
    unfold addAll
    rw [List.foldl_append]
    rfl
  have hHok := addAll_ok (σ := s) (ps.take k) (s := ⟨[], 0, []⟩) (fun _ h => (by cases h)) (fun p h => (hps p (List.mem_of_mem_take h)).mono (Snap.le_trans hle1 hle))
  have hHfit := (addAll_fit (ps.take k) hfit0).mono (n := 40) (by rw [List.length_take]; omega)
  have P' := P.mono (Snap.le_trans hle1 hle)
  have hone' : (ps.take (k + 1)).drop k = [ps[k]] := by
    rw [List.take_succ_eq_append_getElem hkl, List.drop_append_of_le_length (by rw [List.length_take]; omega), List.drop_eq_nil_of_le (by rw [List.length_take]; omega)]
    rfl
  have P1 := P'.sub (l := k) (k := k + 1) (Nat.le_succ k) hkl
  have e1 : ((srRows ps).take (k + 1)).drop k = srRows [ps[k]] := by
    unfold srRows
    rw [← List.map_take, ← List.map_drop, hone']
  rw [e1, show k + 1 - k = 1 by omega] at P1
  have HG := HG.mono hle
  have HD := HD.mono hle
  have hGok := fun x h => (hGok x h).mono hle
  have hrest : ∀ s' : Snap, s.le s' → σ1.le s' := fun s' h => Snap.le_trans hle h
  generalize ps[k] = p at *
  generalize hHk : addAll ⟨[], 0, []⟩ (ps.take k) = K at *
  have hids := addOne_ids K.xs K.next K.ids p
  have hfitK : GFit 40 ⟨K.xs, K.next, []⟩ := ⟨hHfit.xs, Nat.zero_le _, hHfit.next, hHfit.cnt⟩
  have hall : addAll ⟨K.xs, K.next, []⟩ [p] = addOne ⟨K.xs, K.next, []⟩ p := rfl
  have hol : (addOne ⟨K.xs, K.next, []⟩ p).ids.length = 1 := by rw [hone]; rfl
  have hx1 : (addOne K p).xs = (addOne ⟨K.xs, K.next, []⟩ p).xs := hids.1
  have hn1 : (addOne K p).next = (addOne ⟨K.xs, K.next, []⟩ p).next := hids.2
  have hadd := fun (qo : Option Addr) (qc : Nat) (hP : SlAt s qo 1 qc 1 (srRows [p])) => Add_c s K.xs K.next ho hc HH hHok [p] qo qc hP (fun q hq => by rw [List.mem_singleton.1 hq]; exact hpo) 40 hfitK (by show 40 + 1 ≤ 1000000; omega)
  rw [hall, hol, hone] at hadd
  clear hids hall hol hone hfitK HH hHok hHfit hGat
  generalize addOne ⟨K.xs, K.next, []⟩ p = r at *
  (repeat (first | refine cj_seq ?_ | refine cj_skip ?_ | refine cj_block ?_ | refine nj_then ?_))
  refine cj_cutN (fun (t : GaR) => t.s) (fun t => [(0, .a (.v (.slice po ps.length pc))), (3, .a .tt), (4, .a (.p 0 0)), (5, .a (.v (.slice ido (addAll ⟨[], 0, []⟩ ps).ids.length idc))), (6, .a (.p 1 0)), (7, .a (.v (.int .i64 (k : Nat)))), (8, .a (.p 2 0)), (9, .a (.v (.slice t.io 1 t.ic)))])
    (fun t => [(0, .loc 71, [.v (.slice go (addAll ⟨[], 0, []⟩ ps).xs.length gc), .v (.int .i64 (addAll ⟨[], 0, []⟩ ps).next)]), (1, .loc 71, [.v (.slice ho K.xs.length hc), .v (.int .i64 K.next)]), (2, .loc 71, [.v (.slice t.ho r.xs.length t.hc), .v (.int .i64 r.next)])]) (fun _ => []) 3
    (fun t => s.le t.s ∧ SlAt t.s t.ho r.xs.length t.hc 3 (lnRows r.xs) ∧ SlAt t.s t.io 1 t.ic 1 (idRows [id])) ?_ (fun t ht => ?_)
  · refine cj_drawG 13 [1, 2, 3, 4, 5, 7, 8, 9, 12] mixed (by kernel_rfl) rfl ?_
    refine gj_val (i := 1) TT rfl (by kernel_rfl) (by kernel_rfl) rfl rfl rfl rfl rfl ?_
    refine gj_val (i := 2) TT rfl (by kernel_rfl) (by kernel_rfl) rfl rfl rfl rfl rfl ?_
    refine gj_val (i := 3) TT rfl (by kernel_rfl) (by kernel_rfl) rfl rfl rfl rfl rfl ?_
    refine gj_add (i := 4) rfl rfl (by kernel_rfl) (by kernel_rfl) rfl rfl rfl rfl rfl rfl (by omega) ?_
    refine gj_slice (i := 5) TT k (k + 1) rfl rfl (by kernel_rfl) (by kernel_rfl) rfl rfl rfl rfl rfl rfl rfl rfl rfl rfl (.inr ⟨_, _, rfl, rfl⟩) (.inr ⟨_, _, rfl, rfl⟩) (Nat.le_succ k) (Nat.le_trans hkl P'.ncap) P'.ncap ?_
    rw [show k + 1 - k = 1 by omega]
    refine gj_val (i := 0) TT rfl (by kernel_rfl) (by kernel_rfl) rfl rfl rfl rfl rfl ?_
    refine gj_two (i := 6) (j := 10) (by kernel_rfl) ?_ ?_
    · refine gk_call rfl rfl rfl rfl rfl Tryd.call48 (by (repeat' (first | exact trivial | refine AllLt.of ?_ | constructor))) (hadd _ _ P1) fun v σ2 hle2 ⟨bo, bc, io, ic, hv, HB, HI⟩ => ⟨.tup [.agg [.v (.slice bo r.xs.length bc), .v (.int .i64 r.next)], .a (.v (.slice io 1 ic))], (by (repeat' (first | exact trivial | refine AllLt.of ?_ | refine SV.lt_tup ?_ | constructor))), hv.symm, ?_⟩
      refine gj_order [(7,.pure),(8,.pure),(9,.pure),(10,.keep),(11,.sink),(12,.pure)] rfl rfl (by kernel_rfl) ?_
      refine oj_run TT rfl ?_
      (repeat refine oj_nil ?_)
      refine nj_again (⟨σ2, bo, bc, io, ic⟩ : GaR) ⟨hle2, HB, HI⟩ Nat.zero_lt_one rfl (by (repeat (first | exact trivial | refine And.intro rfl ?_))) (by (repeat (first | exact trivial | refine And.intro rfl ?_))) rfl (by (repeat' (first | exact trivial | exact Nat.le_of_ble_eq_true rfl | constructor))) (by (repeat' (first | exact trivial | exact Nat.le_of_ble_eq_true rfl | refine AllLt.of ?_ | constructor)))
    · refine gk_new TT rfl rfl rfl rfl rfl ?_
      refine gj_order [(6,.keep),(7,.pure),(8,.pure),(9,.pure),(11,.sink),(12,.pure)] rfl rfl (by kernel_rfl) ?_
      refine oj_callS rfl rfl rfl rfl rfl Tryd.call48 (by (repeat' (first | exact trivial | refine AllLt.of ?_ | constructor))) (hadd _ _ P1) fun v σ2 hle2 ⟨bo, bc, io, ic, hv, HB, HI⟩ => ⟨.tup [.agg [.v (.slice bo r.xs.length bc), .v (.int .i64 r.next)], .a (.v (.slice io 1 ic))], (by (repeat' (first | exact trivial | refine AllLt.of ?_ | refine SV.lt_tup ?_ | constructor))), hv.symm, ?_⟩
      refine oj_run TT rfl ?_
      (repeat refine oj_nil ?_)
      refine nj_again (⟨σ2, bo, bc, io, ic⟩ : GaR) ⟨hle2, HB, HI⟩ Nat.zero_lt_one rfl (by (repeat (first | exact trivial | refine And.intro rfl ?_))) (by (repeat (first | exact trivial | refine And.intro rfl ?_))) rfl (by (repeat' (first | exact trivial | exact Nat.le_of_ble_eq_true rfl | constructor))) (by (repeat' (first | exact trivial | exact Nat.le_of_ble_eq_true rfl | refine AllLt.of ?_ | constructor)))
  obtain ⟨σ2, bo, bc, io, ic⟩ := t
  obtain ⟨hle2, HB, HI⟩ := ht
  dsimp only at hle2 HB HI ⊢
  have P2 := P'.mono hle2
  have HD := HD.mono hle2
  have HG := HG.mono hle2
  have hGok := fun x h => (hGok x h).mono hle2
  have hpo := hpo.mono hle2
  have hrest := hrest σ2 hle2
  generalize addAll ⟨[], 0, []⟩ ps = G at *
  (repeat (first | refine cj_seq ?_ | (refine cj_region ?_; refine oj_run TT rfl ?_) | refine oj_then ?_))
  refine cj_draw [(0,.pure),(1,.pure),(2,.pure),(3,.pure),(4,.pure),(5,.pure),(6,.pure),(7,.pure),(8,.pure),(9,.pure),(10,.pure),(11,.pure),(12,.quiet),(13,.pure),(14,.pure),(15,.pure),(16,.quiet),(17,.pure),(18,.pure),(19,.pure),(20,.quiet),(21,.pure),(22,.pure),(23,.pure),(24,.quiet),(26,.pure),(27,.pure),(28,.pure),(29,.quiet),(25,.keep),(30,.pure),(31,.pure)] mixed (by kernel_rfl) (oj_run TT rfl ?_)
  refine oj_split 42 rfl (fun h => absurd (show (!decide ((1 : Int) = 1)) = true from h) (by decide)) (fun _ => ?_)
  refine oj_run TT rfl ?_
  refine oj_split 48 rfl (fun h => ?_) (fun _ => ?_)
  · have := of_decide_eq_true (show decide ((k : Int) ≥ G.ids.length) = true from h)
    omega
  refine oj_run TT rfl ?_
  refine oj_idx TT rfl rfl rfl rfl rfl rfl rfl rfl rfl HI (by omega) (show (idRows [id])[(0 : Int).toNat]? = some [.v (.int .i64 id)] from rfl) (oj_run TT rfl ?_)
  refine oj_idx TT rfl rfl rfl rfl rfl rfl rfl rfl rfl HD (by omega) (idRows_get hid) (oj_run TT rfl ?_)
  refine oj_split 58 rfl (fun h => absurd (show (!decide (id = id)) = true from h) (by simp)) (fun _ => ?_)
  refine oj_run TT rfl ?_
  refine oj_idx TT rfl rfl rfl rfl rfl rfl rfl rfl rfl P2 (by omega) hrow (oj_run TT rfl ?_)
  refine oj_idx TT rfl rfl rfl rfl rfl rfl rfl rfl rfl HD (by omega) (idRows_get hid) (oj_run TT rfl ?_)
  refine oj_callP rfl rfl rfl rfl rfl Tryd.call49 (by (repeat' (first | exact trivial | refine AllLt.of ?_ | constructor))) (FindGd_c σ2 G.xs (by omega) go gc G.next HG hGok p.ss p.ao p.cap hpo.2) fun v hv => ⟨.a (.v (.int .i64 id)), trivial, (by rw [hv, hfind]; rfl), ?_⟩
  refine oj_run TT rfl ?_
  (repeat refine oj_then ?_)
  refine cj_if rfl (fun h => absurd (show (!decide (id = id)) = true from h) (by simp)) (fun _ => ?_)
  (repeat (first | (refine cj_region ?_; refine oj_run TT rfl ?_) | refine oj_nil ?_ | refine cj_skip ?_ | refine nj_then ?_ | refine nj_block ?_ | (refine oj_add rfl rfl rfl rfl rfl rfl (by omega) ?_; refine oj_run TT rfl ?_)))
  refine nj_again (σ2, (⟨k + 1, bo, bc⟩ : GaS)) ⟨hrest, hkl, by dsimp only; rw [hnext, hx1]; exact HB⟩ (by dsimp only; omega) rfl (by (repeat (first | exact trivial | refine And.intro rfl ?_))) ?_ rfl (by (repeat' (first | exact trivial | exact Nat.le_of_ble_eq_true rfl | constructor))) (by (repeat' (first | exact trivial | exact Nat.le_of_ble_eq_true rfl | refine AllLt.of ?_ | constructor)))
  dsimp only
  rw [hnext, hx1, hn1]
  (repeat (first | exact trivial | refine And.intro rfl ?_))
end Go.Sy
/- Plain laws: counts of lines; single patterns; paths of records. No program in sight. -/
namespace Go.Sy

/-! ### Each line counts the records of its path -/

/-- What is counted after the paths ps. -/
structure CInv (ps : List SRow) (s : GSt) : Prop where
  inv : GInv s
  len : s.ids.length = ps.length
  cnt : ∀ (j : Nat) x, s.xs[j]? = some x → x.cnt = s.ids.count (j : Int)
  st : ∀ (k : Nat) (d : Int), s.ids[k]? = some d → ∃ (j : Nat) (x : GLine) (p : SRow), d = j ∧ s.xs[j]? = some x ∧ ps[k]? = some p ∧ x.st = p.ss
  ne : ∀ (j : Nat) x, s.xs[j]? = some x → ∃ p ∈ ps, x.st = p.ss

theorem cinv_step {ps : List SRow} {s : GSt} (h : CInv ps s) (p : SRow) : CInv (ps ++ [p]) (addOne s p) := by
  have hbd := lineG_bd s.xs p.ss
  have hold : ∀ (k : Nat) (d : Int), s.ids[k]? = some d → k < ps.length := fun k d hk => by
    have := (List.getElem?_eq_some_iff.1 hk).1
    rw [h.len] at this
    exact this
  by_cases hn : lineG s.xs p.ss < 0
  · obtain ⟨hinv, -, -⟩ := addOne_spec h.inv p
    rw [addOne_new hn] at hinv ⊢
    refine ⟨hinv, by simp [h.len], fun j x hx => ?_, fun k d hk => ?_, fun j x hx => ?_⟩
    · dsimp only at hx ⊢
      rw [List.count_append, List.count_singleton, h.inv.next]
      by_cases hj : j < s.xs.length
      · rw [List.getElem?_append_left hj] at hx
        have hc := h.cnt j x hx
        rw [hc, if_neg (by simp; omega)]
        omega
      · rw [List.getElem?_append_right (by omega)] at hx
        have hj0 : j - s.xs.length = 0 := by
          have := (List.getElem?_eq_some_iff.1 hx).1
          simpa using this
        rw [hj0] at hx
        simp only [List.getElem?_cons_zero, Option.some.injEq] at hx
        subst hx
        have hjl : j = s.xs.length := by omega
        subst hjl
        have h0 : s.ids.count (s.xs.length : Int) = 0 := by
          rw [List.count_eq_zero]
          intro hm
          obtain ⟨k, hk⟩ := List.mem_iff_getElem?.1 hm
          obtain ⟨j, x, p, e, hx, -, -⟩ := h.st k _ hk
          have := (List.getElem?_eq_some_iff.1 hx).1
          omega
        rw [h0, if_pos (by simp)]
        rfl
    · dsimp only at hk ⊢
      by_cases hkl : k < s.ids.length
      · rw [List.getElem?_append_left hkl] at hk
        obtain ⟨j, x, q, e, hx, hq, hst⟩ := h.st k d hk
        have hjl := (List.getElem?_eq_some_iff.1 hx).1
        exact ⟨j, x, q, e, by rw [List.getElem?_append_left hjl]; exact hx, by rw [List.getElem?_append_left (hold k d hk)]; exact hq, hst⟩
      · rw [List.getElem?_append_right (by omega)] at hk
        have hk0 : k - s.ids.length = 0 := by
          have := (List.getElem?_eq_some_iff.1 hk).1
          simpa using this
        rw [hk0] at hk
        simp only [List.getElem?_cons_zero, Option.some.injEq] at hk
        have hkk : k = ps.length := by have := h.len; omega
        subst hkk
        exact ⟨s.xs.length, (newLn s.next p).more, p, by rw [← hk, h.inv.next], by simp, by simp, rfl⟩
    · dsimp only at hx
      by_cases hj : j < s.xs.length
      · rw [List.getElem?_append_left hj] at hx
        obtain ⟨q, hq, e⟩ := h.ne j x hx
        exact ⟨q, List.mem_append_left _ hq, e⟩
      · rw [List.getElem?_append_right (by omega)] at hx
        have := List.mem_of_getElem? hx
        rw [List.mem_singleton] at this
        subst this
        exact ⟨p, by simp, rfl⟩
  · obtain ⟨j0, hj0⟩ : ∃ j : Nat, lineG s.xs p.ss = j := ⟨(lineG s.xs p.ss).toNat, by omega⟩
    obtain ⟨x0, hx0, hst0⟩ := lineG_at hj0
    have hlt := (List.getElem?_eq_some_iff.1 hx0).1
    obtain ⟨hinv, -, -⟩ := addOne_spec h.inv p
    rw [addOne_old hj0 hx0] at hinv ⊢
    have hid := (h.inv.at_ j0 x0 hx0).1
    have hself : (s.xs.set j0 x0.more)[j0]? = some x0.more := by rw [List.getElem?_set, if_pos rfl, if_pos hlt]
    refine ⟨hinv, by simp [h.len], fun j x hx => ?_, fun k d hk => ?_, fun j x hx => ?_⟩
    · dsimp only at hx ⊢
      rw [List.count_append, List.count_singleton, hid]
      by_cases hij : j0 = j
      · subst hij
        rw [hself] at hx
        obtain rfl := Option.some.inj hx
        have hc := h.cnt j0 x0 hx0
        show x0.cnt + 1 = _
        rw [hc, if_pos (by simp)]
        omega
      · rw [List.getElem?_set, if_neg hij] at hx
        rw [h.cnt j x hx, if_neg (by simp; omega)]
        omega
    · dsimp only at hk ⊢
      by_cases hkl : k < s.ids.length
      · rw [List.getElem?_append_left hkl] at hk
        obtain ⟨j, x, q, e, hx, hq, hst⟩ := h.st k d hk
        by_cases hij : j0 = j
        · subst hij
          rw [hx0] at hx
          obtain rfl := Option.some.inj hx
          exact ⟨j0, x0.more, q, e, hself, by rw [List.getElem?_append_left (hold k d hk)]; exact hq, hst⟩
        · exact ⟨j, x, q, e, by rw [List.getElem?_set, if_neg hij]; exact hx, by rw [List.getElem?_append_left (hold k d hk)]; exact hq, hst⟩
      · rw [List.getElem?_append_right (by omega)] at hk
        have hk0 : k - s.ids.length = 0 := by
          have := (List.getElem?_eq_some_iff.1 hk).1
          simpa using this
        rw [hk0] at hk
        simp only [List.getElem?_cons_zero, Option.some.injEq] at hk
        have hkk : k = ps.length := by have := h.len; omega
        subst hkk
        exact ⟨j0, x0.more, p, by rw [← hk, hid], hself, by simp, hst0⟩
    · dsimp only at hx
      by_cases hij : j0 = j
      · subst hij
        rw [hself] at hx
        obtain rfl := Option.some.inj hx
        exact ⟨p, by simp, hst0⟩
      · rw [List.getElem?_set, if_neg hij] at hx
        obtain ⟨q, hq, e⟩ := h.ne j x hx
        exact ⟨q, List.mem_append_left _ hq, e⟩

theorem cinv_all : ∀ (qs ps : List SRow) {s : GSt}, CInv ps s → CInv (ps ++ qs) (addAll s qs)
  | [], ps, s, h => by rw [List.append_nil]; exact h
  | q :: qs, ps, s, h => by
    have := cinv_all qs (ps ++ [q]) (cinv_step h q)
    rw [List.append_assoc] at this
    exact this
theorem cinv_adds (ps : List SRow) : CInv ps (addAll ⟨[], 0, []⟩ ps) := by
  have := cinv_all ps [] (s := ⟨[], 0, []⟩) ⟨inv0, rfl, fun j x h => by simp at h, fun k d h => by simp at h, fun j x h => by simp at h⟩
  exact this

/-- How many of the numbers are below m. -/
def cntUpto (ids : List Int) : Nat → Nat
  | 0 => 0
  | m + 1 => cntUpto ids m + ids.count (m : Int)
theorem cntUpto_all (ids : List Int) (m : Nat) (h : ∀ d ∈ ids, 0 ≤ d ∧ d < (m : Int)) : cntUpto ids m = ids.length := by
  induction ids with
  | nil =>
    clear h
    induction m with
    | zero => rfl
    | succ m ih => rw [cntUpto, ih]; rfl
  | cons d ids ih =>
    have key : ∀ (m : Nat), cntUpto (d :: ids) m = cntUpto ids m + (if 0 ≤ d ∧ d < (m : Int) then 1 else 0) := by
      intro m
      induction m with
      | zero =>
        rw [if_neg (by omega)]
        rfl
      | succ m ihm =>
        rw [cntUpto, cntUpto, ihm, List.count_cons]
        by_cases hd : d = m
        · rw [if_neg (by omega), if_pos (by simpa using hd), if_pos (by omega)]
          omega
        · rw [if_neg (show ¬ (d == (m : Int)) = true by simpa using hd)]
          by_cases he : 0 ≤ d ∧ d < (m : Int)
          · rw [if_pos he, if_pos (by omega)]
            omega
          · rw [if_neg he, if_neg (by omega)]
            omega
    rw [key m, ih fun x hx => h x (List.mem_cons_of_mem _ hx), if_pos (h d List.mem_cons_self)]
    rfl

/-! ### Patterns of one -/

theorem prefix_dot (k : ByteArray) : dotS ++ k ≠ elemS := by
  intro h
  have h1 := congrArg (fun s : ByteArray => s.data.toList.head?) h
  have h2 : (dotS ++ k).data.toList = 46 :: k.data.toList := by
    rw [ByteArray.data_append, Array.toList_append]
    rfl
  rw [h2, List.head?_cons, show elemS.data.toList.head? = some 91 by decide] at h1
  exact absurd (Option.some.inj h1) (by decide)

def deepP : GPat := ⟨4, emptyS⟩
def anyP : GPat := ⟨2, emptyS⟩
def eachP : GPat := ⟨3, emptyS⟩

theorem run_deep : ∀ (ss : List ByteArray), runV [deepP] ss = [true, true] := by
  have h0 : startV [deepP] = [true, true] := rfl
  have h1 : ∀ s, deepV [deepP] (nextV [deepP] [true, true] s) = [true, true] := fun s => rfl
  have : ∀ (ss : List ByteArray), ss.foldl (fun V s => deepV [deepP] (nextV [deepP] V s)) [true, true] = [true, true] := by
    intro ss
    induction ss with
    | nil => rfl
    | cons s ss ih => rw [List.foldl_cons, h1, ih]
  intro ss
  unfold runV
  rw [h0, this]
theorem match_deep (ss : List ByteArray) : matchG ss [deepP] = true := by unfold matchG; rw [run_deep]; rfl

theorem match_one (p : GPat) (hp : p.what ≠ 4) : ∀ ss : List ByteArray, matchG ss [p] = match ss with | [s] => fitsP p s | _ => false := by
  have h0 : startV [p] = [true, false] := by
    unfold startV deepV
    simp [List.range_succ, deepAt, hp]
  have h1 : ∀ (a b : Bool) (s : ByteArray), deepV [p] (nextV [p] [a, b] s) = [false, a && fitsP p s] := by
    intro a b s
    unfold deepV nextV
    simp only [List.length_singleton, List.range_succ, List.range_zero, List.nil_append, List.foldl_cons, List.foldl_nil, deepAt, patAt, List.getElem?_cons_zero, hp, if_false]
    cases a
    · rfl
    · cases hf : fitsP p s <;> simp
  intro ss
  unfold matchG runV
  rw [h0]
  match ss with
  | [] => rfl
  | [s] =>
    simp only [List.foldl_cons, List.foldl_nil, h1]
    rfl
  | s :: s' :: ss =>
    simp only [List.foldl_cons, h1]
    have : ∀ (ss : List ByteArray), ss.foldl (fun V s => deepV [p] (nextV [p] V s)) [false, false] = [false, false] := by
      intro ss
      induction ss with
      | nil => rfl
      | cons s ss ih => rw [List.foldl_cons, h1, Bool.false_and, ih]
    rw [Bool.false_and, this]
    rfl

theorem allG_len_le {q r : Nat → GLine → Bool} (h : ∀ k x, q k x = true → r k x = true) : ∀ (l : List GLine) (k : Nat), (allG q l k).length ≤ (allG r l k).length
  | [], _ => Nat.le_refl _
  | x :: l, k => by
    have ih := allG_len_le h l (k + 1)
    unfold allG
    by_cases hq : q k x = true
    · rw [if_pos hq, if_pos (h k x hq), List.length_cons, List.length_cons]
      omega
    · rw [if_neg hq]
      split
      · rw [List.length_cons]; omega
      · exact ih
theorem allG_full {q : Nat → GLine → Bool} : ∀ (l : List GLine) (k : Nat), (∀ (j : Nat) x, l[j]? = some x → q (k + j) x = true) → (allG q l k).length = l.length
  | [], _, _ => rfl
  | x :: l, k, h => by
    unfold allG
    rw [if_pos (show q k x = true from h 0 x rfl), List.length_cons, List.length_cons, allG_full l (k + 1) fun j y hy => by
      have := h (j + 1) y (by simpa using hy)
      rw [show k + (j + 1) = k + 1 + j by omega] at this
      exact this]
theorem allG_pos {q : Nat → GLine → Bool} : ∀ (l : List GLine) (k : Nat), 0 < (allG q l k).length ↔ ∃ (j : Nat) (x : GLine), l[j]? = some x ∧ q (k + j) x = true
  | [], _ => by simp [allG]
  | x :: l, k => by
    unfold allG
    by_cases hq : q k x = true
    · rw [if_pos hq]
      exact ⟨fun _ => ⟨0, x, rfl, hq⟩, fun _ => by rw [List.length_cons]; omega⟩
    · rw [if_neg hq, allG_pos l (k + 1)]
      constructor
      · rintro ⟨j, y, h1, h2⟩
        exact ⟨j + 1, y, by simpa using h1, by rw [show k + (j + 1) = k + 1 + j by omega]; exact h2⟩
      · rintro ⟨j, y, h1, h2⟩
        cases j with
        | zero =>
          simp only [List.getElem?_cons_zero, Option.some.injEq] at h1
          subst h1
          exact absurd h2 hq
        | succ j => exact ⟨j, y, by simpa using h1, by rw [show k + 1 + j = k + (j + 1) by omega]; exact h2⟩

/-! ### Paths of records -/

theorem pathsF_len : ∀ (L : List GRec) (way : List ByteArray), (pathsF way L).length = L.length
  | [], _ => rfl
  | r :: l, way => by rw [pathsF, List.length_cons, List.length_cons, pathsF_len l]

/-- A path is just '[]' where its record stands at the first level, and is an element. -/
theorem pathStep_elem {way : List ByteArray} {r : GRec} (h0 : 0 ≤ r.lv) (h1 : r.lv ≤ way.length + 1) : pathStep way r = [elemS] ↔ r.lv = 1 ∧ r.nm = false := by
  unfold pathStep
  have hl : (way.take (r.lv - 1).toNat).length = (r.lv - 1).toNat := by rw [List.length_take]; omega
  cases hn : r.nm with
  | true =>
    refine ⟨fun h => ?_, fun h => (by cases h.2)⟩
    rw [if_pos rfl] at h
    have h2 := congrArg List.getLast? h
    rw [List.getLast?_append] at h2
    exact absurd (Option.some.inj h2) (prefix_dot r.name)
  | false =>
    rw [if_neg (by simp)]
    by_cases hp : 0 < r.lv
    · rw [if_pos hp]
      constructor
      · intro h
        have := congrArg List.length h
        rw [List.length_append, hl] at this
        simp at this
        exact ⟨by omega, rfl⟩
      · rintro ⟨h, -⟩
        rw [h]
        rfl
    · rw [if_neg hp, List.append_nil]
      refine ⟨fun h => ?_, fun h => by omega⟩
      have := congrArg List.length h
      rw [hl] at this
      simp at this
      omega
theorem pathStep_len {way : List ByteArray} {r : GRec} (h0 : 0 ≤ r.lv) (h1 : r.lv ≤ way.length + 1) : r.lv.toNat ≤ (pathStep way r).length := by
  unfold pathStep
  rw [List.length_append, List.length_take]
  split
  · rw [List.length_singleton]; omega
  · split
    · rw [List.length_singleton]; omega
    · rw [List.length_nil]; omega

theorem paths_elem : ∀ (L : List GRec) (way : List ByteArray), levelsOk (way.length + 1) L → (elemS ∈ (pathsF way L).filterMap (fun p => match p with | [s] => some s | _ => none) ↔ ∃ r ∈ L, r.lv = 1 ∧ r.nm = false)
  | [], _, _ => by simp [pathsF]
  | r :: l, way, ⟨h1, h2, h3⟩ => by
    have h2' : r.lv ≤ way.length + 1 := by omega
    have ih := paths_elem l (pathStep way r) (h3.mono (by have := pathStep_len h1 h2'; omega))
    have he := pathStep_elem h1 h2'
    rw [pathsF, List.filterMap_cons]
    have hm : (match pathStep way r with | [s] => some s | _ => none) = some elemS ↔ pathStep way r = [elemS] := by
      match hp : pathStep way r with
      | [] => simp
      | [s] => simp
      | _ :: _ :: _ => simp
    constructor
    · intro h
      by_cases hx : pathStep way r = [elemS]
      · exact ⟨r, List.mem_cons_self, he.1 hx⟩
      · have : elemS ∈ (pathsF (pathStep way r) l).filterMap (fun p => match p with | [s] => some s | _ => none) := by
          split at h
          · exact h
          · rename_i s hs
            cases h with
            | head => exact absurd (hm.1 hs) hx
            | tail _ h => exact h
        obtain ⟨r', a, b⟩ := ih.1 this
        exact ⟨r', List.mem_cons_of_mem _ a, b⟩
    · rintro ⟨r', hr, hb⟩
      cases hr with
      | head =>
        rw [hm.2 (he.2 hb)]
        exact List.mem_cons_self
      | tail _ hr =>
        have := ih.2 ⟨r', hr, hb⟩
        split
        · exact this
        · exact List.mem_cons_of_mem _ this
end Go.Sy
/- Plain law of GuideCounts. No program in sight. -/
namespace Go.Sy

theorem shredI_lv_of (gap : Int) : ∀ (xs : List Itm), (∀ x ∈ xs, ∀ (lv : Int) (nm : Bool) (name : ByteArray) (now : Int) (r : GRec), r ∈ (shredV gap x.v lv nm name now).1 → (r.lv = lv ∧ r.nm = nm) ∨ lv < r.lv) →
    ∀ (lv now : Int) (r : GRec), r ∈ (shredI gap xs lv now).1 → (∃ x ∈ xs, r.lv = lv ∧ r.nm = x.nm) ∨ lv < r.lv
  | [], _, _, _, _, h => by simp [shredI] at h
  | x :: xs, H, lv, now, r, h => by
    unfold shredI at h
    rcases List.mem_append.1 h with h | h
    · rcases H x List.mem_cons_self _ _ _ _ _ h with ⟨a, b⟩ | h
      · exact .inl ⟨x, List.mem_cons_self, a, b⟩
      · exact .inr h
    · rcases shredI_lv_of gap xs (fun y hy => H y (List.mem_cons_of_mem _ hy)) _ _ _ h with ⟨y, hy, e⟩ | h
      · exact .inl ⟨y, List.mem_cons_of_mem _ hy, e⟩
      · exact .inr h

theorem cntV_mem : ∀ {gs : List GVal} {g : GVal}, g ∈ gs → cntV g ≤ cntL gs := by
  intro gs g h
  obtain ⟨a, b, rfl⟩ := List.append_of_mem h
  rw [cntL_append, cntL]
  omega

theorem shredV_lv (gap : Int) : ∀ (n : Nat) (g : GVal), cntV g ≤ n → g.wf → ∀ (lv : Int) (nm : Bool) (name : ByteArray) (now : Int) (r : GRec), r ∈ (shredV gap g lv nm name now).1 → (r.lv = lv ∧ r.nm = nm) ∨ lv < r.lv
  | 0, g, hn, _, _, _, _, _, _, _ => by have := cntV_pos g; omega
  | n + 1, g, hn, hw, lv, nm, name, now, r, h => by
    rw [shredV_its gap g lv nm name now hw] at h
    rcases List.mem_cons.1 h with h | h
    · subst h
      exact .inl ⟨rfl, rfl⟩
    · have := shredI_lv_of gap (its g) (fun x hx => shredV_lv gap n x.v (by
        have h1 := cntV_mem (its_mem hw hx)
        have h2 := cntI_its hw
        rw [cntI, vals_its hw] at h2
        omega) (its_wf hw hx)) _ _ _ h
      rcases this with ⟨x, -, e, -⟩ | h
      · exact .inr (by omega)
      · exact .inr (by omega)

theorem shredI_has (gap : Int) : ∀ (xs : List Itm), (∀ x ∈ xs, x.v.wf) → ∀ (x : Itm), x ∈ xs → ∀ (lv now : Int), ∃ r ∈ (shredI gap xs lv now).1, r.lv = lv ∧ r.nm = x.nm
  | [], _, x, h, _, _ => (by cases h)
  | y :: xs, H, x, h, lv, now => by
    unfold shredI
    rcases List.mem_cons.1 h with h | h
    · subst h
      dsimp only
      rw [shredV_its gap x.v lv x.nm x.name now (H x List.mem_cons_self)]
      exact ⟨_, List.mem_append_left _ List.mem_cons_self, rfl, rfl⟩
    · obtain ⟨r, hr, e⟩ := shredI_has gap xs (fun z hz => H z (List.mem_cons_of_mem _ hz)) x h lv (shredV gap y.v lv y.nm y.name now).2
      exact ⟨r, List.mem_append_right _ hr, e⟩

theorem its_elem {g : GVal} : (∃ x ∈ its g, x.nm = false) ↔ g.l ≠ [] := by
  constructor
  · rintro ⟨x, hx, hn⟩
    obtain ⟨m, hm⟩ := List.mem_iff_getElem?.1 hx
    rcases its_split hm with ⟨-, h, -⟩ | ⟨h, -⟩
    · intro e
      rw [e] at h
      exact absurd h (Nat.not_lt_zero _)
    · rw [hn] at h
      cases h
  · intro h
    cases hl : g.l with
    | nil => exact absurd hl h
    | cons y l => exact ⟨⟨false, emptyS, y⟩, List.mem_append_left _ (by rw [hl]; exact List.mem_cons_self), rfl⟩

/-- A record of an element stands at the first level where the list has elements. -/
theorem shred_elem {gap : Int} {g : GVal} {nm : Bool} {name : ByteArray} {now : Int} (hw : g.wf) : (∃ r ∈ (shredV gap g 0 nm name now).1, r.lv = 1 ∧ r.nm = false) ↔ g.l ≠ [] := by
  rw [shredV_its gap g 0 nm name now hw, ← its_elem]
  constructor
  · rintro ⟨r, hr, h1, h2⟩
    rcases List.mem_cons.1 hr with hr | hr
    · subst hr
      exact absurd h1 (by show ¬ (0 : Int) = 1; decide)
    · rcases shredI_lv_of gap (its g) (fun x hx => shredV_lv gap _ x.v (Nat.le_refl _) (its_wf hw hx)) _ _ _ hr with ⟨x, hx, -, e⟩ | h
      · exact ⟨x, hx, by rw [← e, h2]⟩
      · omega
  · rintro ⟨x, hx, hn⟩
    obtain ⟨r, hr, h1, h2⟩ := shredI_has gap (its g) (fun y hy => its_wf hw hy) x hx (0 + 1) (now + gap)
    exact ⟨r, List.mem_cons_of_mem _ hr, h1, by rw [h2, hn]⟩

/-! ### What is asked of the lines -/

theorem cntUpto_mono (ids : List Int) (a b : Nat) (h : a ≤ b) : cntUpto ids a ≤ cntUpto ids b := by
  induction b with
  | zero =>
    have : a = 0 := by omega
    subst this
    exact Nat.le_refl _
  | succ b ih =>
    by_cases hab : a = b + 1
    · subst hab
      exact Nat.le_refl _
    · have := ih (by omega)
      rw [cntUpto]
      omega

theorem lines_count {ps : List SRow} {s : GSt} (h : CInv ps s) : cntUpto s.ids s.xs.length = ps.length := by
  rw [← h.len]
  refine cntUpto_all _ _ fun d hd => ?_
  obtain ⟨k, hk⟩ := List.mem_iff_getElem?.1 hd
  obtain ⟨j, x, p, e, hx, -, -⟩ := h.st k d hk
  have := (List.getElem?_eq_some_iff.1 hx).1
  omega

theorem all_deep (xs : List GLine) : (matchIds xs [deepP]).length = xs.length := allG_full xs 0 fun _ x _ => match_deep x.st
theorem kids_one (xs : List GLine) : (matchIds xs [eachP]).length ≤ (matchIds xs [anyP]).length := by
  refine allG_len_le (fun k x h => ?_) xs 0
  rw [match_one eachP (by decide)] at h
  rw [match_one anyP (by decide)]
  match hs : x.st with
  | [] => rw [hs] at h; cases h
  | [s] => rfl
  | _ :: _ :: _ => rw [hs] at h; cases h

theorem below_zero {xs : List GLine} {x : GLine} (hx : xs[0]? = some x) (hi : x.id = 0) (hs : x.st = []) : (belowG xs 0).length = xs.length - 1 := by
  have h0 : idG xs 0 = (0 : Nat) := by
    cases xs with
    | nil => cases hx
    | cons y l =>
      simp only [List.getElem?_cons_zero, Option.some.injEq] at hx
      subst hx
      unfold idG findG
      rw [if_pos (by simpa using hi)]
  unfold belowG
  rw [h0]
  simp only [Int.toNat_natCast, hx]
  rw [if_neg (by omega), hs]
  cases xs with
  | nil => cases hx
  | cons y l =>
    unfold allG
    rw [if_neg (by unfold belowQ; simp), List.length_cons, allG_full l 1 fun j z _ => ?_]
    · omega
    · unfold belowQ
      simp
      omega

theorem path_root {L : List GRec} {r : GRec} (hr : L[0]? = some r) (h1 : r.lv = 0) (h2 : r.nm = false) : (pathsG L)[0]? = some [] := by
  cases L with
  | nil => cases hr
  | cons y l =>
    simp only [List.getElem?_cons_zero, Option.some.injEq] at hr
    subst hr
    unfold pathsG pathsF pathStep
    rw [h1, h2]
    rfl

theorem line_root {p : SRow} {ps : List SRow} (hp : ps[0]? = some p) : ∃ x, (addAll ⟨[], 0, []⟩ ps).xs[0]? = some x ∧ x.id = 0 ∧ x.st = p.ss := by
  cases ps with
  | nil => cases hp
  | cons q qs =>
    simp only [List.getElem?_cons_zero, Option.some.injEq] at hp
    subst hp
    have h0 : addOne ⟨[], 0, []⟩ q = ⟨[(newLn 0 q).more], 1, [0]⟩ := addOne_new (by show (-1 : Int) < 0; decide)
    obtain ⟨-, hm, -⟩ := addAll_inv qs (addOne_spec inv0 q).1
    rw [h0] at hm
    obtain ⟨y, hy, e1, e2⟩ := hm 0 (newLn 0 q).more rfl
    refine ⟨y, ?_, e2, e1⟩
    rw [← hy, ← h0]
    rfl

theorem counts_kids {g : GVal} {L : List GRec} (hL : L = (shredV 1 g 0 false emptyS 0).1) (hw : g.wf) (hk : kinds g) {ps : List SRow} (hps : ps.map SRow.ss = pathsG L) :
    decide (((matchIds (addAll ⟨[], 0, []⟩ ps).xs [eachP]).length : Int) > 0) = (decide (g.kind = 4) && decide ((g.l.length : Int) > 0)) := by
  have hlev : levelsOk 0 L := by
    have := nested_shred (φ := fun x => x) (fun a b _ h => h) (gap := 1) (by omega) g false emptyS (by omega)
    rw [stE_id, List.map_id, ← hL] at this
    unfold nestedG at this
    simp only [Bool.and_eq_true] at this
    exact nest_levels L 0 [] (-1) this.1
  have hel := paths_elem L [] (hlev.mono (Nat.zero_le _))
  rw [hL, shred_elem hw, ← hL] at hel
  have hC := cinv_adds ps
  have key : 0 < (matchIds (addAll ⟨[], 0, []⟩ ps).xs [eachP]).length ↔ g.l ≠ [] := by
    rw [← hel]
    unfold matchIds
    rw [allG_pos]
    constructor
    · rintro ⟨j, x, hx, hq⟩
      rw [match_one eachP (by decide)] at hq
      obtain ⟨p, hp, e⟩ := hC.ne j x hx
      have hm : x.st ∈ pathsF [] L := by
        rw [e]
        exact (show ps.map SRow.ss = pathsF [] L from hps) ▸ List.mem_map_of_mem hp
      match hs : x.st with
      | [] => rw [hs] at hq; cases hq
      | [s] =>
        rw [hs] at hq hm
        have : s = elemS := of_decide_eq_true hq
        subst this
        exact List.mem_filterMap.2 ⟨_, hm, rfl⟩
      | _ :: _ :: _ => rw [hs] at hq; cases hq
    · intro h
      obtain ⟨p, hp, e⟩ := List.mem_filterMap.1 h
      have hp1 : p = [elemS] := by
        match p, e with
        | [s], e => rw [Option.some.inj e]
      subst hp1
      rw [← (show ps.map SRow.ss = pathsF [] L from hps)] at hp
      obtain ⟨q, hq, hqs⟩ := List.mem_map.1 hp
      obtain ⟨k, hk⟩ := List.mem_iff_getElem?.1 hq
      have hkl := (List.getElem?_eq_some_iff.1 hk).1
      have hkd : ∃ d, (addAll ⟨[], 0, []⟩ ps).ids[k]? = some d := ⟨_, List.getElem?_eq_getElem (by rw [hC.len]; exact hkl)⟩
      obtain ⟨d, hd⟩ := hkd
      obtain ⟨j, x, q', -, hx, hq', hst⟩ := hC.st k d hd
      rw [hk] at hq'
      obtain rfl := Option.some.inj hq'
      refine ⟨j, x, hx, ?_⟩
      rw [match_one eachP (by decide), hst, hqs]
      rfl
  by_cases hl : g.l = []
  · rw [hl]
    have : ¬ 0 < (matchIds (addAll ⟨[], 0, []⟩ ps).xs [eachP]).length := fun h => key.1 h hl
    rw [decide_eq_false (by omega)]
    simp
  · have h4 := ((kinds_eq g).1 hk).1 hl
    have hpos := key.2 hl
    have : 0 < g.l.length := List.length_pos_iff.2 hl
    rw [decide_eq_true (by omega), decide_eq_true h4, decide_eq_true (by omega)]
    rfl
end Go.Sy
namespace Go.Sy
open Go.Proofs

/-! ### GuideCounts -/

set_option maxRecDepth 100000 in
set_option maxHeartbeats 1000000 in
theorem GuideCounts_c (σ : Snap) (g : GVal) (r : List AT) (hr : RepV σ g r) :
    PlainS Tryd.prog 10 [.agg r] σ (fun v => v = .bool true) := by
  obtain ⟨la, lc, lrows, ma, mc, vrows, rfl, V⟩ := hr.open
  refine enter_p Tryd.func10 rfl rfl (by (repeat' (first | exact trivial | exact vCells_lt _ _ _ _ _ _ | constructor))) fun w => ?_
  (repeat (first | refine cj_seq ?_ | (refine cj_region ?_; refine oj_run TT rfl ?_) | refine oj_then ?_))
  refine oj_callP rfl rfl rfl rfl rfl Tryd.call46 (by (repeat' exact trivial)) (awake13_c σ) fun v hv => ⟨.a .tt, trivial, hv.symm, ?_⟩
  refine oj_run TT rfl ?_
  (repeat (first | refine cj_seq ?_ | (refine cj_region ?_; refine oj_run TT rfl ?_) | refine oj_then ?_))
  refine oj_callP rfl rfl rfl rfl rfl Tryd.call19 (by (repeat' (first | exact trivial | exact vCells_lt _ _ _ _ _ _ | constructor))) (Few_c σ g _ 800 V.rep (by omega) (by omega)) fun v ⟨fb, hv, hfew⟩ => ⟨.a (.b fb), trivial, hv.symm, ?_⟩
  refine oj_run TT rfl ?_
  (repeat refine oj_then ?_)
  refine cj_if rfl (fun h => ?_) (fun h => ?_)
  · (repeat (first | refine cj_seq ?_ | (refine cj_region ?_; refine oj_run TT rfl ?_) | refine oj_then ?_ | refine cj_ret ?_ | refine nj_then_ret ?_))
    refine nj_ret TT rfl fun β w' _ _ => ?_
    rfl
  have hw : g.weight ≤ 800 := by
    have := hfew (by simpa using h)
    omega
  (repeat (first | refine cj_seq ?_ | (refine cj_region ?_; refine oj_run TT rfl ?_) | refine cj_skip ?_ | refine nj_then ?_))
  refine oj_callS rfl rfl rfl rfl rfl Tryd.call21 ⟨vCells_lt _ _ _ _ _ _, trivial, trivial⟩ (Shred_s σ g _ 1 V.rep (by omega)) fun v σ1 hle1 ⟨ao, cap, hv, H⟩ => ⟨.tup [.a (.v (.slice ao (shredG g 1).1.length cap)), .a (.v (.int .i64 (shredG g 1).2))], (by (repeat' (first | exact trivial | refine SV.lt_tup ?_ | constructor))), hv.symm, ?_⟩
  rw [shredG_k (by omega) (by omega)] at H ⊢
  by_cases hs : sane g ≠ 0
  · rw [if_pos hs] at H ⊢
    dsimp only at H ⊢
    refine oj_run TT rfl ?_
    (repeat (first | refine cj_seq ?_ | (refine cj_region ?_; refine oj_run TT rfl ?_) | refine oj_then ?_))
    refine oj_split 28 rfl (fun h => ?_) (fun h => absurd (by simpa using h) hs)
    refine oj_run TT rfl ?_
    (repeat (first | refine cj_seq ?_ | (refine cj_region ?_; refine oj_run TT rfl ?_) | refine oj_then ?_ | refine cj_if_t rfl ?_ | refine cj_ret ?_ | refine nj_then_ret ?_))
    refine nj_ret TT rfl fun β w' _ _ => ?_
    rfl
  have hs : sane g = 0 := by simpa using hs
  rw [if_neg (by simp [hs])] at H ⊢
  dsimp only at H ⊢
  generalize hLdef : (shredV 1 g 0 false emptyS 0).1 = L at *
  obtain ⟨hcnt, hlen1, hpos, hsound, R, -⟩ := shred_facts V.rep (by omega) (by omega) (by omega) hs hLdef.symm
  refine oj_run TT rfl ?_
  (repeat (first | refine cj_seq ?_ | (refine cj_region ?_; refine oj_run TT rfl ?_) | refine oj_then ?_))
  refine oj_split 28 rfl (fun h => absurd h (by decide)) (fun h => ?_)
  refine oj_run TT rfl ?_
  (repeat refine oj_then ?_)
  refine cj_if rfl (fun h => ?_) (fun h => ?_)
  · have := of_decide_eq_true h
    omega
  have hlev : levelsOk 0 L := by
    have := nested_shred (φ := fun x => x) (fun a b _ h => h) (gap := 1) (by omega) g false emptyS (by omega)
    rw [stE_id, List.map_id, hLdef] at this
    unfold nestedG at this
    simp only [Bool.and_eq_true] at this
    exact nest_levels L 0 [] (-1) this.1
  (repeat (first | refine cj_seq ?_ | (refine cj_region ?_; refine oj_run TT rfl ?_) | refine cj_skip ?_ | refine nj_then ?_))
  refine oj_callS rfl rfl rfl rfl rfl Tryd.call53 (by (repeat' (first | exact trivial | constructor))) (Paths_c σ1 L R (by omega) hsound hlev ao cap H) fun v σ2 hle2 ⟨ps, po, pc, hv, P, hps, hpp⟩ => ⟨.a (.v (.slice po ps.length pc)), trivial, hv.symm, ?_⟩
  have hpl : ps.length = L.length := by
    have := congrArg List.length hpp
    rw [List.length_map, pathsG, pathsF_len] at this
    exact this
  have V := V.monoC (Snap.le_trans hle1 hle2).cle
  refine oj_run TT rfl ?_
  (repeat (first | refine cj_seq ?_ | (refine cj_region ?_; refine oj_run TT rfl ?_) | refine oj_then ?_))
  have hfit0 : GFit 0 ⟨[], 0, []⟩ := ⟨Nat.le_refl _, Nat.le_refl _, by decide, fun _ h => (by cases h)⟩
  refine oj_callS rfl rfl rfl rfl rfl Tryd.call48 (by (repeat' (first | exact trivial | refine AllLt.of ?_ | constructor))) (Add_c σ2 [] 0 none 0 (SlAt.nil _ _ _ _) (fun _ h => (by cases h)) ps po pc P hps 0 hfit0 (by omega)) fun v σ3 hle3 ⟨go, gc, ido, idc, hv, HG, HD⟩ => ⟨.tup [.agg [.v (.slice go (addAll ⟨[], 0, []⟩ ps).xs.length gc), .v (.int .i64 (addAll ⟨[], 0, []⟩ ps).next)], .a (.v (.slice ido (addAll ⟨[], 0, []⟩ ps).ids.length idc))], (by (repeat' (first | exact trivial | refine AllLt.of ?_ | refine SV.lt_tup ?_ | constructor))), hv.symm, ?_⟩
  have hGok := addAll_ok (σ := σ3) ps (s := ⟨[], 0, []⟩) (fun _ h => (by cases h)) (fun p h => (hps p h).mono hle3)
  have hGfit := addAll_fit ps hfit0
  have hps := fun p h => (hps p h).mono hle3
  have P := P.mono hle3
  have V := V.monoC hle3.cle
  have hC := cinv_adds ps
  have hGn := hGfit.next
  have hGx := hGfit.xs
  have hsum := lines_count hC
  have hkids := counts_kids hLdef.symm V.rep.wf (sane_kinds4 g 0 0 hs) hpp
  have hroot : ∃ x, (addAll ⟨[], 0, []⟩ ps).xs[0]? = some x ∧ x.id = 0 ∧ x.st = [] := by
    have h0 : L[0]? = some ⟨0 + 1, 0 + wV 1 g, 0, g.kind, false, emptyS, g.b, g.n, g.s⟩ := by rw [← hLdef, shredV_its 1 g 0 false emptyS 0 V.rep.wf]; rfl
    have h1 := path_root h0 rfl rfl
    rw [← hpp, List.getElem?_map] at h1
    obtain ⟨p, hp, e⟩ := Option.map_eq_some_iff.1 h1
    obtain ⟨x, hx, e1, e2⟩ := line_root hp
    exact ⟨x, hx, e1, by rw [e2, e]⟩
  refine oj_run TT rfl ?_
  (repeat (first | refine cj_seq ?_ | (refine cj_region ?_; refine oj_run TT rfl ?_) | refine oj_then ?_ | refine cj_block ?_))
  generalize addAll ⟨[], 0, []⟩ ps = G at *
  refine cj_cutB (α := Unit) (fun _ => σ3) (fun _ => [(1, .a (.p 0 0)), (3, .a .tt), (4, .a (.v (.slice ao L.length cap))), (6, .a (.v (.slice po ps.length pc))), (7, .a (.p 1 0)), (8, .a (.v (.slice ido G.ids.length idc))), (9, .a (.v (.int .i64 (L.length : Nat))))]) (fun _ => [(0, .loc 27, vCells g la lc ma mc), (1, .loc 71, [.v (.slice go G.xs.length gc), .v (.int .i64 G.next)])]) (fun _ => []) 2 (fun _ => True) ?_ (fun _ _ => ?_)
  · refine cj_loop (fun (_ : Nat) => σ3) (fun i => [(1, .a (.p 0 0)), (3, .a .tt), (4, .a (.v (.slice ao L.length cap))), (6, .a (.v (.slice po ps.length pc))), (7, .a (.p 1 0)), (8, .a (.v (.slice ido G.ids.length idc))), (9, .a (.v (.int .i64 (cntUpto G.ids i : Nat)))), (10, .a (.v (.int .i64 (i : Nat))))]) (fun _ => [(0, .loc 27, vCells g la lc ma mc), (1, .loc 71, [.v (.slice go G.xs.length gc), .v (.int .i64 G.next)])]) (fun _ => []) 2
      (fun i => i ≤ G.xs.length) (fun i => G.xs.length - i) 0 (Nat.zero_le _) rfl (by (repeat (first | exact trivial | refine And.intro rfl ?_))) (by (repeat (first | exact trivial | refine And.intro rfl ?_))) rfl (by (repeat' (first | exact trivial | exact Nat.le_of_ble_eq_true rfl | constructor))) (by (repeat' (first | exact trivial | exact Nat.le_of_ble_eq_true rfl | exact vCells_lt _ _ _ _ _ _ | refine AllLt.of ?_ | constructor))) fun i hi => ?_
    (repeat (first | refine cj_seq ?_ | (refine cj_region ?_; refine oj_run TT rfl ?_) | refine oj_then ?_))
    refine cj_if rfl (fun h => ?_) (fun h => ?_)
    rotate_left
    · have hi0 : i = G.xs.length := by have := of_decide_eq_false h; omega
      subst hi0
      rw [hsum, hpl]
      (repeat (first | refine cj_exit ?_ | refine nj_then_exit ?_ | refine nj_block_out ?_))
      refine nj_again () trivial Nat.zero_lt_one rfl (by (repeat (first | exact trivial | refine And.intro rfl ?_))) (by (repeat (first | exact trivial | refine And.intro rfl ?_))) rfl (by (repeat' (first | exact trivial | exact Nat.le_of_ble_eq_true rfl | constructor))) (by (repeat' (first | exact trivial | exact Nat.le_of_ble_eq_true rfl | exact vCells_lt _ _ _ _ _ _ | refine AllLt.of ?_ | constructor)))
    have hil : i < G.xs.length := by have := of_decide_eq_true h; omega
    have hxi : G.xs[i]? = some G.xs[i] := List.getElem?_eq_getElem hil
    have hxo := hGok G.xs[i] (List.getElem_mem hil)
    have hxid := (hC.inv.at_ i _ hxi).1
    have hxc := hC.cnt i _ hxi
    have hst : ∀ (k : Nat) (p : SRow), G.ids[k]? = some (i : Int) → ps[k]? = some p → p.ss = (G.xs[i]).st := fun k p hd hp => by
      obtain ⟨j, x, p', e, hx, hp', h⟩ := hC.st k _ hd
      have : i = j := by omega
      subst this
      rw [hxi] at hx
      rw [hp] at hp'
      obtain rfl := Option.some.inj hx
      obtain rfl := Option.some.inj hp'
      exact h.symm
    have hrow := lnRows_get hxi
    generalize G.xs[i] = x at *
    (repeat (first | refine cj_seq ?_ | (refine cj_region ?_; refine oj_run TT rfl ?_) | refine oj_then ?_ | refine cj_skip ?_ | refine cj_block ?_ | refine nj_then ?_))
    refine cj_cutB (α := Unit) (fun _ => σ3) (fun _ => [(1, .a (.p 0 0)), (3, .a .tt), (4, .a (.v (.slice ao L.length cap))), (6, .a (.v (.slice po ps.length pc))), (7, .a (.p 1 0)), (8, .a (.v (.slice ido G.ids.length idc))), (9, .a (.v (.int .i64 (cntUpto G.ids i : Nat)))), (10, .a (.v (.int .i64 (i : Nat)))), (11, .a (.v (.int .i64 (G.ids.count (i : Int) : Nat))))]) (fun _ => [(0, .loc 27, vCells g la lc ma mc), (1, .loc 71, [.v (.slice go G.xs.length gc), .v (.int .i64 G.next)])]) (fun _ => []) 2 (fun _ => True) ?_ (fun _ _ => ?_)
    · refine cj_loop (fun (_ : Nat) => σ3) (fun j => [(1, .a (.p 0 0)), (3, .a .tt), (4, .a (.v (.slice ao L.length cap))), (6, .a (.v (.slice po ps.length pc))), (7, .a (.p 1 0)), (8, .a (.v (.slice ido G.ids.length idc))), (9, .a (.v (.int .i64 (cntUpto G.ids i : Nat)))), (10, .a (.v (.int .i64 (i : Nat)))), (11, .a (.v (.int .i64 ((G.ids.take j).count (i : Int) : Nat)))), (12, .a (.v (.int .i64 (j : Nat))))]) (fun _ => [(0, .loc 27, vCells g la lc ma mc), (1, .loc 71, [.v (.slice go G.xs.length gc), .v (.int .i64 G.next)])]) (fun _ => []) 2
        (fun j => j ≤ G.ids.length) (fun j => G.ids.length - j) 0 (Nat.zero_le _) rfl (by (repeat (first | exact trivial | refine And.intro rfl ?_))) (by (repeat (first | exact trivial | refine And.intro rfl ?_))) rfl (by (repeat' (first | exact trivial | exact Nat.le_of_ble_eq_true rfl | constructor))) (by (repeat' (first | exact trivial | exact Nat.le_of_ble_eq_true rfl | exact vCells_lt _ _ _ _ _ _ | refine AllLt.of ?_ | constructor))) fun j hj => ?_
      (repeat (first | refine cj_seq ?_ | (refine cj_region ?_; refine oj_run TT rfl ?_) | refine oj_then ?_))
      refine cj_if rfl (fun h => ?_) (fun h => ?_)
      rotate_left
      · have hj0 : j = G.ids.length := by have := of_decide_eq_false h; omega
        subst hj0
        rw [List.take_length]
        (repeat (first | refine cj_exit ?_ | refine nj_then_exit ?_ | refine nj_block_out ?_))
        refine nj_again () trivial Nat.zero_lt_one rfl (by (repeat (first | exact trivial | refine And.intro rfl ?_))) (by (repeat (first | exact trivial | refine And.intro rfl ?_))) rfl (by (repeat' (first | exact trivial | exact Nat.le_of_ble_eq_true rfl | constructor))) (by (repeat' (first | exact trivial | exact Nat.le_of_ble_eq_true rfl | exact vCells_lt _ _ _ _ _ _ | refine AllLt.of ?_ | constructor)))
      have hjl : j < G.ids.length := by have := of_decide_eq_true h; omega
      have hdj : G.ids[j]? = some G.ids[j] := List.getElem?_eq_getElem hjl
      have hjp : j < ps.length := by have := hC.len; omega
      have hpj : ps[j]? = some ps[j] := List.getElem?_eq_getElem hjp
      have hpo := hps ps[j] (List.getElem_mem hjp)
      have hst := fun h => hst j ps[j] h hpj
      rw [hdj] at hst
      have hct : (G.ids.take (j + 1)).count (i : Int) = (G.ids.take j).count (i : Int) + if G.ids[j] = (i : Int) then 1 else 0 := by
        rw [List.take_succ_eq_append_getElem hjl, List.count_append, List.count_singleton]
        simp
      have hcl : (G.ids.take j).count (i : Int) ≤ j := Nat.le_trans List.count_le_length (by rw [List.length_take]; omega)
      have hprow := srRows_get hpj
      generalize ps[j] = p at *
      generalize G.ids[j] = d at *
      (repeat (first | refine cj_seq ?_ | refine cj_skip ?_ | refine cj_block ?_ | refine nj_then ?_))
      refine cj_draw [(0,.pure),(1,.pure),(2,.pure),(3,.quiet),(4,.pure),(5,.quiet),(6,.pure),(7,.pure),(8,.pure),(9,.quiet),(10,.pure)] mixed (by kernel_rfl) (oj_run TT rfl ?_)
      refine oj_idx TT rfl rfl rfl rfl rfl rfl rfl rfl rfl HD (by omega) (idRows_get hdj) (oj_run TT rfl ?_)
      refine oj_idx TT rfl rfl rfl rfl rfl rfl rfl rfl rfl HG (by omega) hrow (oj_run TT rfl ?_)
      (repeat refine oj_then ?_)
      refine cj_if rfl (fun h => ?_) (fun h => ?_)
      · have hd : d = (i : Int) := by have := of_decide_eq_true h; omega
        rw [hd, if_pos rfl] at hct
        have hsame := hst (by rw [hd])
        (repeat (first | refine cj_seq ?_ | (refine cj_region ?_; refine oj_run TT rfl ?_) | refine oj_then ?_ | (refine oj_add rfl rfl rfl rfl rfl rfl (by omega) ?_; refine oj_run TT rfl ?_)))
        refine cj_draw [(0,.pure),(1,.pure),(2,.pure),(3,.quiet),(4,.pure),(5,.quiet),(6,.pure),(7,.pure),(8,.pure),(9,.quiet),(10,.keep),(11,.pure)] mixed (by kernel_rfl) (oj_run TT rfl ?_)
        refine oj_idx TT rfl rfl rfl rfl rfl rfl rfl rfl rfl P (by omega) hprow (oj_run TT rfl ?_)
        refine oj_idx TT rfl rfl rfl rfl rfl rfl rfl rfl rfl HG (by omega) hrow (oj_run TT rfl ?_)
        refine oj_callP rfl rfl rfl rfl rfl Tryd.call54 (by (repeat' (first | exact trivial | constructor))) (SameSteps13_c σ3 p.ss x.st (by have := hpo.1; omega) p.ao x.ao p.cap x.cap hpo.2 hxo.2) fun v hv => ⟨.a .tt, trivial, (by rw [hv, decide_eq_true hsame]; rfl), ?_⟩
        refine oj_run TT rfl ?_
        (repeat (first | (refine cj_region ?_; refine oj_run TT rfl ?_) | refine oj_then ?_ | refine oj_nil ?_ | refine cj_if_f rfl ?_ | refine cj_skip ?_ | refine nj_then ?_ | refine nj_block ?_ | (refine oj_add rfl rfl rfl rfl rfl rfl (by omega) ?_; refine oj_run TT rfl ?_)))
        rw [show (((G.ids.take j).count (i : Int) : Nat) : Int) + 1 = ((G.ids.take (j + 1)).count (i : Int) : Nat) by omega]
        refine nj_again (j + 1) hjl (by omega) rfl (by (repeat (first | exact trivial | refine And.intro rfl ?_))) (by (repeat (first | exact trivial | refine And.intro rfl ?_))) rfl (by (repeat' (first | exact trivial | exact Nat.le_of_ble_eq_true rfl | constructor))) (by (repeat' (first | exact trivial | exact Nat.le_of_ble_eq_true rfl | exact vCells_lt _ _ _ _ _ _ | refine AllLt.of ?_ | constructor)))
      · rw [if_neg (by have := of_decide_eq_false h; omega)] at hct
        (repeat (first | (refine cj_region ?_; refine oj_run TT rfl ?_) | refine oj_nil ?_ | refine cj_skip ?_ | refine nj_then ?_ | refine nj_block ?_ | (refine oj_add rfl rfl rfl rfl rfl rfl (by omega) ?_; refine oj_run TT rfl ?_)))
        rw [show (G.ids.take j).count (i : Int) = (G.ids.take (j + 1)).count (i : Int) by omega]
        refine nj_again (j + 1) hjl (by omega) rfl (by (repeat (first | exact trivial | refine And.intro rfl ?_))) (by (repeat (first | exact trivial | refine And.intro rfl ?_))) rfl (by (repeat' (first | exact trivial | exact Nat.le_of_ble_eq_true rfl | constructor))) (by (repeat' (first | exact trivial | exact Nat.le_of_ble_eq_true rfl | exact vCells_lt _ _ _ _ _ _ | refine AllLt.of ?_ | constructor)))
    have hcl : G.ids.count (i : Int) ≤ G.ids.length := List.count_le_length
    have hcu := cntUpto_mono G.ids (i + 1) G.xs.length hil
    have hcs : cntUpto G.ids (i + 1) = cntUpto G.ids i + G.ids.count (i : Int) := rfl
    have hC5 := hC.len
    (repeat (first | refine cj_seq ?_ | (refine cj_region ?_; refine oj_run TT rfl ?_)))
    refine oj_idx TT rfl rfl rfl rfl rfl rfl rfl rfl rfl HG (by omega) hrow (oj_run TT rfl ?_)
    (repeat refine oj_then ?_)
    refine cj_if rfl (fun h => ?_) (fun _ => ?_)
    · have h : ¬ ((G.ids.count (i : Int) : Nat) : Int) = x.cnt := by simpa using h
      omega
    (repeat (first | (refine cj_region ?_; refine oj_run TT rfl ?_) | refine oj_nil ?_ | refine cj_skip ?_ | refine nj_then ?_ | refine nj_block ?_ | (refine oj_add rfl rfl rfl rfl rfl rfl (by omega) ?_; refine oj_run TT rfl ?_)))
    rw [show ((cntUpto G.ids i : Nat) : Int) + (G.ids.count (i : Int) : Nat) = (cntUpto G.ids (i + 1) : Nat) by omega]
    refine nj_again (i + 1) hil (by omega) rfl (by (repeat (first | exact trivial | refine And.intro rfl ?_))) (by (repeat (first | exact trivial | refine And.intro rfl ?_))) rfl (by (repeat' (first | exact trivial | exact Nat.le_of_ble_eq_true rfl | constructor))) (by (repeat' (first | exact trivial | exact Nat.le_of_ble_eq_true rfl | exact vCells_lt _ _ _ _ _ _ | refine AllLt.of ?_ | constructor)))
  have hCs : ∀ (σ' : Snap) (w : Int) (g' : Nat), ArrSealed σ' ⟨some ⟨g', 0, none⟩, 1, 1, 89, 2, ([.v (.int .i64 w), .v (.string emptyS)] : List AT).map AT.val⟩ → SlAt σ' (some ⟨g', 0, none⟩) ([⟨w, emptyS⟩] : List GPat).length 1 2 (ptRows [⟨w, emptyS⟩]) := fun σ' w g' hS => ArrSealed.sl hS (rows := ptRows [⟨w, emptyS⟩]) rfl (fun r hr => (by rw [List.mem_singleton.1 hr]; exact ⟨rfl, by unfold ptCells; (repeat' (first | exact trivial | refine AllLt.of ?_ | constructor))⟩)) rfl rfl (Nat.le_refl 1)
  (repeat (first | refine cj_seq ?_ | (refine cj_region ?_; refine oj_run TT rfl ?_)))
  refine oj_own 2 1 2 rfl (by (repeat' (first | exact trivial | refine AllLt.of ?_ | constructor))) rfl (by decide) fun g1 => ?_
  refine oj_seal 0 rfl rfl rfl fun σ4 hle4 hS => ?_
  have HG := HG.mono hle4
  have hGok := fun x h => (hGok x h).mono hle4
  have V := V.monoC hle4.cle
  refine oj_callS rfl rfl rfl rfl rfl Tryd.call55 (by (repeat' (first | exact trivial | refine AllLt.of ?_ | constructor))) (Match_c σ4 G.xs (by omega) go gc G.next HG hGok [deepP] (by decide) _ _ (hCs _ _ _ hS)) fun v σ5 hle5 ⟨oo, oc, hv, _⟩ => ⟨.a (.v (.slice oo (matchIds G.xs [deepP]).length oc)), trivial, hv.symm, ?_⟩
  rw [all_deep]
  have HG := HG.mono hle5
  have hGok := fun x h => (hGok x h).mono hle5
  have V := V.monoC hle5.cle
  refine oj_run TT rfl ?_
  (repeat (first | refine cj_seq ?_ | (refine cj_region ?_; refine oj_run TT rfl ?_) | refine oj_then ?_))
  refine oj_own 3 1 2 rfl (by (repeat' (first | exact trivial | refine AllLt.of ?_ | constructor))) rfl (by decide) fun gp => ?_
  refine oj_seal 0 rfl rfl rfl fun σ6 hlepa hS => ?_
  have HG := HG.mono hlepa
  have hGok := fun x h => (hGok x h).mono hlepa
  have V := V.monoC hlepa.cle
  refine oj_callS rfl rfl rfl rfl rfl Tryd.call55 (by (repeat' (first | exact trivial | refine AllLt.of ?_ | constructor))) (Match_c σ6 G.xs (by omega) go gc G.next HG hGok [anyP] (by decide) _ _ (hCs _ _ _ hS)) fun v σ7 hlepb ⟨op, cp, hv, _⟩ => ⟨.a (.v (.slice op (matchIds G.xs [anyP]).length cp)), trivial, hv.symm, ?_⟩
  have HG := HG.mono hlepb
  have hGok := fun x h => (hGok x h).mono hlepb
  have V := V.monoC hlepb.cle
  refine oj_run TT rfl ?_
  (repeat (first | refine cj_seq ?_ | (refine cj_region ?_; refine oj_run TT rfl ?_) | refine oj_then ?_))
  refine oj_own 4 1 2 rfl (by (repeat' (first | exact trivial | refine AllLt.of ?_ | constructor))) rfl (by decide) fun gq => ?_
  refine oj_seal 0 rfl rfl rfl fun σ8 hleqa hS => ?_
  have HG := HG.mono hleqa
  have hGok := fun x h => (hGok x h).mono hleqa
  have V := V.monoC hleqa.cle
  refine oj_callS rfl rfl rfl rfl rfl Tryd.call55 (by (repeat' (first | exact trivial | refine AllLt.of ?_ | constructor))) (Match_c σ8 G.xs (by omega) go gc G.next HG hGok [eachP] (by decide) _ _ (hCs _ _ _ hS)) fun v σ9 hleqb ⟨oq, cq, hv, _⟩ => ⟨.a (.v (.slice oq (matchIds G.xs [eachP]).length cq)), trivial, hv.symm, ?_⟩
  have HG := HG.mono hleqb
  have hGok := fun x h => (hGok x h).mono hleqb
  have V := V.monoC hleqb.cle
  refine oj_run TT rfl ?_
  (repeat (first | refine cj_seq ?_ | refine oj_then ?_))
  have hk1 := kids_one G.xs
  obtain ⟨x0, hx0, hx0i, hx0s⟩ := hroot
  have hbel := below_zero hx0 hx0i hx0s
  have hx0l := (List.getElem?_eq_some_iff.1 hx0).1
  generalize (matchIds G.xs [eachP]).length = nk at *
  generalize (matchIds G.xs [anyP]).length = no at *
  refine cj_draw [(0,.pure),(1,.pure),(2,.pure),(3,.pure),(4,.pure),(5,.pure),(6,.pure),(7,.pure),(8,.pure),(9,.pure),(10,.pure),(11,.quiet),(12,.pure),(13,.pure),(14,.pure),(15,.pure),(16,.quiet),(19,.pure),(20,.quiet),(21,.pure),(22,.pure),(17,.keep),(18,.pure),(23,.pure),(24,.pure),(25,.pure),(26,.pure),(27,.pure),(28,.pure),(29,.pure),(30,.pure),(31,.pure),(32,.pure),(33,.pure),(34,.pure),(35,.pure),(36,.pure),(37,.quiet),(38,.pure),(39,.pure),(40,.pure),(41,.quiet),(42,.pure),(43,.pure),(44,.pure),(45,.pure),(46,.pure),(47,.pure)] mixed (by kernel_rfl) (oj_run TT rfl ?_)
  refine oj_split 110 rfl (fun _ => ?_) (fun h => absurd (show decide ((L.length : Int) = L.length) = false from h) (by simp))
  refine oj_run TT rfl ?_
  refine oj_split 118 rfl (fun _ => ?_) (fun h => absurd (show decide ((G.xs.length : Int) = G.xs.length) = false from h) (by simp))
  refine oj_run TT rfl ?_
  (repeat (refine oj_minus rfl rfl rfl rfl rfl rfl (by omega) ?_; refine oj_run TT rfl ?_))
  refine oj_callS rfl rfl rfl rfl rfl Tryd.call56 (by (repeat' (first | exact trivial | refine AllLt.of ?_ | constructor))) (Below_c σ9 G.xs (by omega) go gc G.next HG hGok 0) fun v σ10 hleb ⟨ob, cb, hv, _⟩ => ⟨.a (.v (.slice ob (belowG G.xs 0).length cb)), trivial, hv.symm, ?_⟩
  rw [hbel]
  have V := V.monoC hleb.cle
  refine oj_run TT rfl ?_
  refine oj_split 128 rfl (fun _ => ?_) (fun h => ?_)
  rotate_left
  · have : ¬ ((G.xs.length - 1 : Nat) : Int) = (G.xs.length : Int) - 1 := of_decide_eq_false h
    omega
  refine oj_run TT rfl ?_
  refine oj_split 135 rfl (fun _ => ?_) (fun h => ?_)
  rotate_left
  · have : ¬ (nk : Int) ≤ no := of_decide_eq_false h
    omega
  refine oj_run TT rfl ?_
  refine oj_split 142 rfl (fun h4 => ?_) (fun h4 => ?_)
  · rw [show decide (g.kind = 4) = true from h4, Bool.true_and] at hkids
    refine oj_run TT rfl ?_
    (repeat (first | refine oj_then ?_ | refine cj_ret ?_))
    refine nj_ret TT rfl fun β w' _ _ => ?_
    show Value.bool (decide ((nk : Int) > 0) == decide ((g.l.length : Int) > 0)) = _
    rw [hkids, beq_self_eq_true]
  · rw [show decide (g.kind = 4) = false from h4, Bool.false_and] at hkids
    refine oj_run TT rfl ?_
    (repeat (first | refine oj_then ?_ | refine cj_ret ?_))
    refine nj_ret TT rfl fun β w' _ _ => ?_
    show Value.bool (decide ((nk : Int) > 0) == false) = _
    rw [hkids]
    rfl
end Go.Sy
/- From a row's data to what the walks ask: a value that is read in the world is a tree that lies in memory, all of it sealed. -/
namespace Go.Sy
open Go.ChangeShapes Go.RowKit

def snapOf (W : World) : Snap := fun b => W.heap[b]?
theorem snapOf_sealed (W : World) : Sealed (snapOf W) W := fun _ _ h => h
theorem snapOf_cell (W : World) (a : Addr) : (snapOf W).cell a = W.cell? a := rfl

/-- The types of a value: itself, its list, its members, a member, its number, text, number, truth. -/
structure VT (P : Program) (tV tL tM tE tD tS tI tB : TypeId) : Prop where
  v : ∃ fs : Array Field, P.underlying tV = some (.struct fs) ∧ fs.toList.map (fun f => (f.type, f.offset)) = [(tI, 0), (tB, 1), (tD, 2), (tS, 5), (tL, 6), (tM, 7)]
  l : P.underlying tL = some (.slice tV)
  m : P.underlying tM = some (.slice tE)
  e : ∃ fs : Array Field, P.underlying tE = some (.struct fs) ∧ fs.toList.map (fun f => (f.type, f.offset)) = [(tS, 0), (tV, 1)]
  d : ∃ fs : Array Field, P.underlying tD = some (.struct fs) ∧ fs.toList.map (fun f => (f.type, f.offset)) = [(tB, 0), (tS, 1), (tI, 2)]
  s : P.underlying tS = some .string
  i : P.underlying tI = some (.int .i64)
  b : P.underlying tB = some .bool
  cV : P.cellsOf tV = 8
  cE : P.cellsOf tE = 9
  cD : P.cellsOf tD = 3
  cS : P.cellsOf tS = 1
  cI : P.cellsOf tI = 1
  cB : P.cellsOf tB = 1
  cL : P.cellsOf tL = 1
  cM : P.cellsOf tM = 1
  bV : 0 < P.bytesOf tV
  bE : 0 < P.bytesOf tE

section
variable {H : Type} {enc : TypeId × Value → H} {P : Program} {w : World} {sp : Nat → Bool} {held : Bool}

theorem field_at {fs : Array Field} {l : List (TypeId × Nat)} (h : fs.toList.map (fun f => (f.type, f.offset)) = l) {i : Nat} {t : TypeId} {o : Nat} (hi : l[i]? = some (t, o)) :
    ∃ f, fs[i]? = some f ∧ f.type = t ∧ f.offset = o := by
  subst h
  rw [List.getElem?_map] at hi
  simp only [Option.map_eq_some_iff, Prod.mk.injEq] at hi
  obtain ⟨f, h1, h2, h3⟩ := hi
  exact ⟨f, by simpa using h1, h2, h3⟩

theorem open_struct {t : TypeId} {fs : Array Field} {l : List (TypeId × Nat)} {n : Nat} {cs : List Value} {x : DataW H × List MemPlace} (hu : P.underlying t = some (.struct fs)) (hl : fs.toList.map (fun f => (f.type, f.offset)) = l)
    (h : DataW.trod enc P w 0 sp held n t cs = some x) :
    ∃ m, m < n ∧ cs.length = P.cellsOf t ∧ ∀ (i : Nat) (u : TypeId) (o : Nat), l[i]? = some (u, o) → ∃ y : DataW H × List MemPlace, DataW.trod enc P w 0 sp held m u ((cs.drop o).take (P.cellsOf u)) = some y ∧ ∀ k ∈ y.1.weights P u, k ∈ x.1.weights P t := by
  obtain ⟨xs, m, rfl, rfl, h1, h2, h3⟩ := DataW.trod_struct hu h
  refine ⟨m, by omega, h1, fun i u o hi => ?_⟩
  obtain ⟨f, hf, rfl, rfl⟩ := field_at hl hi
  have hi' : i < xs.length := by
    rw [h2]
    have := (List.getElem?_eq_some_iff.1 (show fs.toList[i]? = some f by simpa using hf)).1
    simpa using this
  refine ⟨xs[i], by rw [h3 i f hf, List.getElem?_eq_getElem hi'], fun k hk => ?_⟩
  rw [DataW.weights.eq_def]
  simp only [hu]
  exact DataW.weights_mem_each (j := i) (t := f.type) (d := xs[i].1) (by simp; exact ⟨f, by simpa using hf, rfl⟩) (by simp [List.getElem?_eq_getElem hi']) k hk

theorem weightsAll_mem {e : TypeId} : ∀ {ds : List (DataW H)} {d : DataW H}, d ∈ ds → ∀ k ∈ d.weights P e, k ∈ DataW.weightsAll P e ds
  | _ :: _, _, .head _, k, hk => by rw [DataW.weightsAll]; exact List.mem_append_left _ hk
  | _ :: _, _, .tail _ h, k, hk => by rw [DataW.weightsAll]; exact List.mem_append_right _ (weightsAll_mem h k hk)

theorem open_sl {t e : TypeId} {n sz : Nat} {c : Value} {x : DataW H × List MemPlace} (hu : P.underlying t = some (.slice e)) (hc : P.cellsOf e = sz) (hb : 0 < P.bytesOf e) (h : DataW.trod enc P w 0 sp held n t [c] = some x)
    (hw : ∀ k ∈ x.1.weights P t, k ≤ reachBytes) :
    ∃ (ao : Option Addr) (len cap m : Nat), c = .slice ao len cap ∧ m < n ∧ len ≤ cap ∧ len ≤ reachBytes ∧
      (len = 0 ∨ ∃ a, ao = some a ∧ ∀ i, i < len → ∃ (cs : List Value) (y : DataW H × List MemPlace), cs.length = sz ∧ (∀ j v, cs[j]? = some v → w.cell? (a.add (i * sz + j)) = some v) ∧
        DataW.trod enc P w 0 sp held m e cs = some y ∧ ∀ k ∈ y.1.weights P e, k ∈ x.1.weights P t) := by
  rcases DataW.trod_slice hu h with ⟨h1, rfl⟩ | ⟨a, len, cap, elems, rest, m, rfl, h1, rfl, _, h3, h4, h5, h6, _, _⟩
  · injection h1 with h1
    subst h1
    refine ⟨none, 0, 0, 0, rfl, ?_, Nat.le_refl _, by decide, .inl rfl⟩
    cases n with
    | zero => simp [DataW.trod] at h
    | succ n => omega
  · injection h1 with h1
    subst h1
    have hwt : (DataW.slice (elems.map (·.1)) (rest.map (·.1)) : DataW H).weights P t = ((elems.map (·.1)).length + (rest.map (·.1)).length) * P.bytesOf e :: (DataW.weightsAll P e (elems.map (·.1)) ++ DataW.weightsAll P e (rest.map (·.1))) := by
      rw [DataW.weights.eq_def]
      simp only [hu]
    refine ⟨some a, len, cap, m, rfl, by omega, h3, ?_, .inr ⟨a, rfl, fun i hi => ?_⟩⟩
    · have := hw _ (by rw [hwt]; exact List.mem_cons_self)
      simp only [List.length_map] at this
      have h7 : elems.length ≤ (elems.length + rest.length) * P.bytesOf e := Nat.le_trans (Nat.le_add_right _ _) (Nat.le_mul_of_pos_right _ hb)
      omega
    · have hi' : i < elems.length := by omega
      have h8 := h6 i hi
      rw [List.getElem?_eq_getElem hi', hc] at h8
      obtain ⟨cs, h9, h10⟩ := Option.bind_eq_some_iff.1 h8
      obtain ⟨_, h11, h12⟩ := World.cells?_some h9
      refine ⟨cs, elems[i], h11, fun j v hj => ?_, h10, fun k hk => ?_⟩
      · have hj' : j < sz := by rw [← h11]; exact (List.getElem?_eq_some_iff.1 hj).1
        have := h12 j hj'
        rw [hj] at this
        rw [← this]
        congr 1
        exact (Addr.add_add _ _ _).symm
      · rw [hwt]
        exact List.mem_cons_of_mem _ (List.mem_append_left _ (weightsAll_mem (List.mem_map.2 ⟨elems[i], List.getElem_mem hi', rfl⟩) k hk))

theorem RepL.range {σ : Snap} {G : Nat → GVal} {R : Nat → List AT} : ∀ l : List Nat, (∀ i ∈ l, RepV σ (G i) (R i)) → RepL σ (l.map G) (l.map R)
  | [], _ => by simp [RepL]
  | a :: l, h => by
    simp only [List.map_cons, RepL]
    exact ⟨R a, l.map R, rfl, h a List.mem_cons_self, RepL.range l fun i hi => h i (List.mem_cons_of_mem _ hi)⟩

theorem keyRows_range (K : Nat → ByteArray) (R : Nat → List AT) : ∀ l : List Nat, keyRows (l.map K) (l.map R) = l.map fun i => keyRow (K i) (R i)
  | [] => rfl
  | a :: l => by simp [keyRows, keyRows_range K R l]

/-- What each of its elements is, read off the memory. -/
theorem slAt_range {ao : Option Addr} {len cap sz : Nat} {R : Nat → List AT} (h1 : len ≤ cap) (h2 : ∀ i, i < len → (R i).length = sz ∧ ∀ c ∈ R i, c.lt 0)
    (h3 : len = 0 ∨ ∃ a, ao = some a ∧ ∀ i, i < len → ∀ j v, ((R i).map (AT.den β0))[j]? = some v → w.cell? (a.add (i * sz + j)) = some v) : SlAt (snapOf w) ao len cap sz ((List.range len).map R) := by
  refine ⟨by simp, h1, fun r hr => ?_, ?_⟩
  · obtain ⟨i, hi, rfl⟩ := List.mem_map.1 hr
    exact h2 i (List.mem_range.1 hi)
  · rcases h3 with h3 | ⟨a, h3, h4⟩
    · exact .inl h3
    · refine .inr ⟨a, h3, fun i r j c hr hc => ?_⟩
      rw [List.getElem?_map] at hr
      obtain ⟨i', h5, rfl⟩ := Option.map_eq_some_iff.1 hr
      obtain ⟨h6, h7⟩ := List.getElem?_eq_some_iff.1 h5
      have h8 : i < len := by simpa using h6
      have h9 : i' = i := by simpa using h7.symm
      subst h9
      rw [snapOf_cell]
      exact h4 i' h8 j _ (by rw [List.getElem?_map, hc]; rfl)

variable {tV tL tM tE tD tS tI tB : TypeId}

theorem open_str {n : Nat} {t : TypeId} {c : Value} {x : DataW H × List MemPlace} (hu : P.underlying t = some .string) (h : DataW.trod enc P w 0 sp held n t [c] = some x) (hw : ∀ k ∈ x.1.weights P t, k ≤ reachBytes) :
    ∃ s : ByteArray, c = .string s ∧ s.size ≤ mostLen := by
  obtain ⟨s, h1, rfl, _⟩ := DataW.trod_string hu h
  injection h1 with h1
  subst h1
  refine ⟨s, rfl, ?_⟩
  have := hw s.data.toList.length (by rw [DataW.weights.eq_def]; exact List.mem_cons_self)
  have h2 : s.data.toList.length = s.size := rfl
  rw [h2] at this
  exact this

/-- A VALUE THAT IS READ is a tree, and lies there. -/
theorem open_val (T : VT P tV tL tM tE tD tS tI tB) : ∀ (n : Nat) (cs : List Value) (x : DataW H × List MemPlace), DataW.trod enc P w 0 sp held n tV cs = some x → (∀ k ∈ x.1.weights P tV, k ≤ reachBytes) →
    ∃ (g : GVal) (r : List AT), cs = r.map (AT.den β0) ∧ RepV (snapOf w) g r := by
  intro n
  induction n using Nat.strongRecOn with
  | _ n ih => ?_
  intro cs x h hw
  obtain ⟨fs, hu, hl⟩ := T.v
  obtain ⟨m, hm, hlen, hf⟩ := open_struct hu hl h
  rw [T.cV] at hlen
  match cs, hlen with
  | [c0, c1, c2, c3, c4, c5, c6, c7], _ =>
  obtain ⟨y0, h0, _⟩ := hf 0 tI 0 rfl
  obtain ⟨y1, h1, _⟩ := hf 1 tB 1 rfl
  obtain ⟨y2, h2, w2⟩ := hf 2 tD 2 rfl
  obtain ⟨y3, h3, w3⟩ := hf 3 tS 5 rfl
  obtain ⟨y4, h4, w4⟩ := hf 4 tL 6 rfl
  obtain ⟨y5, h5, w5⟩ := hf 5 tM 7 rfl
  rw [T.cI] at h0
  rw [T.cB] at h1
  rw [T.cD] at h2
  rw [T.cS] at h3
  rw [T.cL] at h4
  rw [T.cM] at h5
  simp only [List.drop_zero, List.drop_succ_cons, List.take_succ_cons, List.take_zero] at h0 h1 h2 h3 h4 h5
  obtain ⟨k, e0, -, -⟩ := DataW.trod_int T.i h0
  obtain ⟨b, e1, -⟩ := DataW.trod_bool T.b h1
  obtain ⟨s, e5, hs⟩ := open_str T.s h3 fun k hk => hw k (w3 k hk)
  obtain ⟨fd, hud, hld⟩ := T.d
  obtain ⟨md, hmd, -, hfd⟩ := open_struct hud hld h2
  obtain ⟨z0, g0, _⟩ := hfd 0 tB 0 rfl
  obtain ⟨z1, g1, v1⟩ := hfd 1 tS 1 rfl
  obtain ⟨z2, g2, _⟩ := hfd 2 tI 2 rfl
  rw [T.cB] at g0
  rw [T.cS] at g1
  rw [T.cI] at g2
  simp only [List.drop_zero, List.drop_succ_cons, List.take_succ_cons, List.take_zero] at g0 g1 g2
  obtain ⟨ng, e2, -⟩ := DataW.trod_bool T.b g0
  obtain ⟨dg, e3, hdg⟩ := open_str T.s g1 fun k hk => hw k (w2 k (v1 k hk))
  obtain ⟨ex, e4, -, -⟩ := DataW.trod_int T.i g2
  injection e0 with e0
  injection e1 with e1
  injection e2 with e2
  injection e4 with e4
  subst e0 e1 e2 e3 e4 e5
  obtain ⟨la, ll, lc, ml, rfl, hml, hll, hlr, hle⟩ := open_sl T.l T.cV T.bV h4 fun k hk => hw k (w4 k hk)
  obtain ⟨ma, lm, mc, mm, rfl, hmm, hlm, hmr, hme⟩ := open_sl T.m T.cE T.bE h5 fun k hk => hw k (w5 k hk)
  have HL : ∀ i, ∃ gr : GVal × List AT, i < ll → RepV (snapOf w) gr.1 gr.2 ∧ ∀ a, la = some a → ∀ j v, (gr.2.map (AT.den β0))[j]? = some v → w.cell? (a.add (i * 8 + j)) = some v := by
    intro i
    by_cases hi : i < ll
    · rcases hle with h0 | ⟨a, rfl, hle⟩
      · omega
      · obtain ⟨cs, y, _, q2, q3, q4⟩ := hle i hi
        obtain ⟨g, r, rfl, hr⟩ := ih ml (by omega) cs y q3 fun k hk => hw k (w4 k (q4 k hk))
        exact ⟨(g, r), fun _ => ⟨hr, fun a' ha => by injection ha with ha; subst ha; exact q2⟩⟩
    · exact ⟨(.mk 0 false ⟨false, ⟨#[]⟩, 0⟩ ⟨#[]⟩ [] [] [], []), fun h => absurd h hi⟩
  have HM : ∀ i, ∃ gr : ByteArray × GVal × List AT, i < lm → gr.1.size ≤ mostLen ∧ RepV (snapOf w) gr.2.1 gr.2.2 ∧ ∀ a, ma = some a → ∀ j v, ((keyRow gr.1 gr.2.2).map (AT.den β0))[j]? = some v → w.cell? (a.add (i * 9 + j)) = some v := by
    intro i
    by_cases hi : i < lm
    · rcases hme with h0 | ⟨a, rfl, hme⟩
      · omega
      · obtain ⟨cs, y, q1, q2, q3, q4⟩ := hme i hi
        obtain ⟨fe, hue, hle'⟩ := T.e
        obtain ⟨me, hme', -, hfe⟩ := open_struct hue hle' q3
        obtain ⟨u0, p0, x0⟩ := hfe 0 tS 0 rfl
        obtain ⟨u1, p1, x1⟩ := hfe 1 tV 1 rfl
        rw [T.cS] at p0
        rw [T.cV] at p1
        match cs, q1 with
        | c :: cs', q1 =>
          simp only [List.drop_zero, List.drop_succ_cons, List.take_succ_cons, List.take_zero] at p0 p1
          rw [List.take_of_length_le (by simp at q1; omega)] at p1
          obtain ⟨key, rfl, hk⟩ := open_str T.s p0 fun k hk => hw k (w5 k (q4 k (x0 k hk)))
          obtain ⟨g, r, rfl, hr⟩ := ih me (by omega) cs' u1 p1 fun k hk => hw k (w5 k (q4 k (x1 k hk)))
          exact ⟨(key, g, r), fun _ => ⟨hk, hr, fun a' ha => by injection ha with ha; subst ha; exact q2⟩⟩
    · exact ⟨(⟨#[]⟩, .mk 0 false ⟨false, ⟨#[]⟩, 0⟩ ⟨#[]⟩ [] [] [], []), fun h => absurd h hi⟩
  obtain ⟨FL, HL⟩ := Classical.axiomOfChoice HL
  obtain ⟨FM, HM⟩ := Classical.axiomOfChoice HM
  refine ⟨.mk k b ⟨ng, dg, ex⟩ s ((List.range ll).map fun i => (FL i).1) ((List.range lm).map fun i => (FM i).1) ((List.range lm).map fun i => (FM i).2.1),
    [.v (.int .i64 k), .b b, .b ng, .v (.string dg), .v (.int .i64 ex), .v (.string s), .v (.slice la ll lc), .v (.slice ma lm mc)], rfl, ?_⟩
  simp only [RepV]
  refine ⟨la, lc, (List.range ll).map fun i => (FL i).2, ma, mc, (List.range lm).map fun i => (FM i).2.2, by simp, ?_, RepL.range _ fun i hi => (HL i (List.mem_range.1 hi)).1, by simp, ?_, RepL.range _ fun i hi => (HM i (List.mem_range.1 hi)).2.1, hdg, hs, by simpa [mostLen, reachBytes] using hlr, by simpa [mostLen, reachBytes] using hmr, ?_⟩
  · simp only [List.length_map, List.length_range]
    refine slAt_range hll (fun i hi => ⟨(HL i hi).1.len, (HL i hi).1.clo⟩) ?_
    rcases hle with h0 | ⟨a, rfl, _⟩
    · exact .inl h0
    · exact .inr ⟨a, rfl, fun i hi => (HL i hi).2 a rfl⟩
  · rw [keyRows_range]
    simp only [List.length_map, List.length_range]
    refine slAt_range hlm (fun i hi => ⟨by simp [keyRow, (HM i hi).2.1.len], fun c hc => ?_⟩) ?_
    · cases hc with
      | head => trivial
      | tail _ hc => exact (HM i hi).2.1.clo c hc
    · rcases hme with h0 | ⟨a, rfl, _⟩
      · exact .inl h0
      · exact .inr ⟨a, rfl, fun i hi => (HM i hi).2.2 a rfl⟩
  · intro key hk
    obtain ⟨i, hi, rfl⟩ := List.mem_map.1 hk
    exact (HM i (List.mem_range.1 hi)).1

end
end Go.Sy
