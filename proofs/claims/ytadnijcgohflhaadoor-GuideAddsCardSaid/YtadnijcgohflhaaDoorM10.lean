/- Parts of the proof of CGuideAdds: SyT, F30, SyU, Le, F31, XCl, XRow, CFacts, Cs. No conditions. -/
import Derived.Test.YtadnijcgohflhaaDoorM9
import Derived.Carry
import Derived.RowKit
import Derived.ChangeStays
import Derived.ChangeSame
import Derived.ReadAgain
import Derived.SizedLaws
import Derived.Deep.DeepHandedRow
import Derived.ProofKit
import Derived.OpenShut
import Derived.Lay
import Derived.SevenTiedAt
import Derived.Stop.Joined
import Derived.Test.YtadnijcgohflhaaDoorCards
import Derived.Test.YtadnijcgohflhaaDoorTie
import Derived.WideShapes
/- Arrays that are made, of elements of several cells. No program in sight. -/
namespace Go.Sy
theorem madeCells_rep (z : List Value) (k : Nat) : (madeCells z.toArray (k * z.length)).toList = (List.replicate k z).flatten := by
  have hall : ∀ r ∈ List.replicate k z, r.length = z.length := fun r hr => by rw [List.eq_of_mem_replicate hr]
  have hl : (List.replicate k z).flatten.length = k * z.length := by rw [flat_len hall, List.length_replicate]
  have hl2 : (madeCells z.toArray (k * z.length)).toList.length = k * z.length := by rw [Array.length_toList, size_madeCells]
  apply List.ext_getElem?
  intro i
  by_cases hi : i < k * z.length
  · have hz : 0 < z.length := by
      rcases Nat.eq_zero_or_pos z.length with h | h
      · rw [h, Nat.mul_zero] at hi; omega
      · exact h
    have hm : i / z.length < k := Nat.div_lt_of_lt_mul (by rw [Nat.mul_comm]; exact hi)
    have hj : i % z.length < z.length := Nat.mod_lt _ hz
    have := flat_get hall (m := i / z.length) (j := i % z.length) (r := z) (c := z[i % z.length]) (by rw [List.getElem?_replicate, if_pos hm]) (List.getElem?_eq_getElem hj)
    rw [Nat.mul_comm, Nat.div_add_mod] at this
    rw [this]
    unfold madeCells
    rw [Array.getElem?_toList, Array.getElem?_map, Array.getElem?_range, if_pos hi]
    simp [hj]
  · rw [List.getElem?_eq_none (by omega), List.getElem?_eq_none (by omega)]
section
variable {cf : Cf} {Q : Exit → Act → World → Prop} {σ : Snap} {env : Env} {hp : HP} {A : List AE} {nh : Nat} {it : Item} {rest : List Item}

/-- 'make([]T, n)'. -/
theorem oj_makeSliceN {d : Nat} {t e n : Nat} {x y : Operand} {T : List (Nat × TI)} (hT : TTok cf.P T) {ti te : TI} (xs : List Value) (hop : it.o.op = .makeSlice t x y) (hd : it.o.dst = some d) (hg : guardVal it.guard env = some true) (hN : Nat.blt d cf.N = true)
    (htg : canSink it.tag = true) (hx : evalO env x = some (.a (.v (.int .i64 n)))) (hy : evalO env y = some (.a (.v (.int .i64 n)))) (ht : tget T t = some ti) (hkt : ti.kind = .slice e) (hte : tget T e = some te)
    (hby : n * te.bytes ≤ 281474976710656) (hmax : n ≤ 1000000000) (hxs : (madeCells (te.zero.map AT.val).toArray (n * te.size)).toList = xs)
    (hk : ∀ g, OJ cf rest Q σ ((d, .a (.v (.slice (some ⟨g, 0, none⟩) n n))) :: env) hp (A ++ [⟨some ⟨g, 0, none⟩, n, n, e, te.size, xs⟩]) nh) : OJ cf (it :: rest) Q σ env hp A nh := by
  refine oj_step hd hg hN htg fun hb a β ha w hw => ?_
  obtain ⟨i1, d1, z1, hs1⟩ := tiOf_spec (hT _ _ ht)
  obtain ⟨i3, d3, z3, hs3⟩ := tiOf_spec (hT _ _ hte)
  have hut : cf.P.underlying t = some (.slice e) := by
    have h1 := hs1.kind
    rw [hkt] at h1
    have h2 := hs1.und
    cases d1 <;> first
      | (simp only [kindD, TK.slice.injEq] at h1; subst h1; exact h2)
      | (simp only [kindD] at h1; cases h1)
  have hz3 : z3.cells = (te.zero.map AT.val).toArray := (zero_den hs3 β0).symm
  have hxl : xs.length = n * te.size := by rw [← hxs, Array.length_toList, size_madeCells]
  have hxe : a.eval x = .int .i64 n := evalO_eval ha hx
  have hye : a.eval y = .int .i64 n := evalO_eval ha hy
  have hrun := run_make (P := cf.P) w t e i3 z3 hut hs3.info hs3.zero .i64 .i64 n n (by omega) (Int.le_refl _) (by rw [hs3.bytes]; rw [← Int.natCast_mul, Nat.mul_comm]; omega) (by omega)
  rw [hs3.size, Int.toNat_natCast, hz3] at hrun
  have hm := ((StW.nilArr e te.size).1 hw).moveArr (i := A.length) (E := ⟨none, 0, 0, e, te.size, []⟩) (E' := ⟨some ⟨w.heap.size, 0, none⟩, n, n, e, te.size, xs⟩) (cur' := madeCells (te.zero.map AT.val).toArray (n * te.size)) (by simp) rfl (Nat.le_refl _) (by simp only [maxLen]; omega) (by dsimp only; exact hxl) (by rw [size_madeCells]) (by dsimp only; rw [hxs, ← hxl, List.take_length])
  have hset : (A ++ [(⟨none, 0, 0, e, te.size, []⟩ : AE)]).set A.length ⟨some ⟨w.heap.size, 0, none⟩, n, n, e, te.size, xs⟩ = A ++ [⟨some ⟨w.heap.size, 0, none⟩, n, n, e, te.size, xs⟩] := by
    rw [List.set_append_right _ _ (Nat.le_refl _), Nat.sub_self]
    rfl
  rw [hset] at hm
  refine ⟨.a (.v (.slice (some ⟨w.heap.size, 0, none⟩) n n)), σ, hp, _, nh, _, β, ?_, ha, hb.put (x := .a (.v (.slice (some ⟨w.heap.size, 0, none⟩) n n))) trivial d, hm.undrew, hk w.heap.size⟩
  simp only [execOp, hop, hxe, hye, Sem.run_bind, hrun, Result.andThen_ok, Sem.run_pure]
  rfl
end

/-! ### A row becomes an array, also where other rows speak of it -/

def concH (h g : Nat) : HP → HP
  | [] => []
  | (i, k, cs) :: l => (i, k, cs.map (conc h g)) :: concH h g l
theorem concH_get {h g : Nat} : ∀ {hp : HP} {i : Nat}, (concH h g hp).get i = (hp.get i).map fun x => (x.1, x.2.map (conc h g))
  | [], _ => rfl
  | (j, k, cs) :: l, i => by
    rw [concH, HP.get_cons, HP.get_cons]
    split
    · rfl
    · exact concH_get
theorem concH_some {h g : Nat} {hp : HP} {i : Nat} {k : HK} {cs' : List AT} (hi : (concH h g hp).get i = some (k, cs')) : ∃ cs, hp.get i = some (k, cs) ∧ cs' = cs.map (conc h g) := by
  rw [concH_get] at hi
  cases hx : hp.get i with
  | none => rw [hx] at hi; cases hi
  | some x =>
    rw [hx] at hi
    obtain ⟨k0, cs⟩ := x
    simp only [Option.map_some, Option.some.injEq, Prod.mk.injEq] at hi
    exact ⟨cs, by rw [hi.1], hi.2.symm⟩
theorem concH_of {h g : Nat} {hp : HP} {i : Nat} {k : HK} {cs : List AT} (hi : hp.get i = some (k, cs)) : (concH h g hp).get i = some (k, cs.map (conc h g)) := by
  rw [concH_get, hi]
  rfl
section
variable {cf : Cf} {σ : Snap} {hp : HP} {A : List AE} {β : Nat → Addr} {w : World}
theorem StW.concH {h g : Nat} (hβ : β h = ⟨g, 0, none⟩) : StW cf σ hp A β w ↔ StW cf σ (concH h g hp) A β w := by
  constructor
  · intro s
    refine ⟨s.os, s.tape, s.output, s.size, s.fr, s.sealed, s.le, s.grow, fun i e cs hi => ?_, fun i cs hi j c hc => ?_, fun i j e e' cs cs' hi hj => ?_, s.arr, s.arrd, fun i j E e cs hE hj => ?_⟩
    · obtain ⟨cs0, h1, rfl⟩ := concH_some hi
      obtain ⟨q1, q2, q3⟩ := s.loc i e cs0 h1
      exact ⟨q1, by rw [concL_den hβ]; exact q2, q3⟩
    · obtain ⟨cs0, h1, rfl⟩ := concH_some hi
      rw [List.getElem?_map] at hc
      cases hc0 : cs0[j]? with
      | none => rw [hc0] at hc; cases hc
      | some c0 =>
        rw [hc0] at hc
        obtain rfl := Option.some.inj hc
        rw [conc_den hβ]
        exact s.ro i cs0 h1 j c0 hc0
    · obtain ⟨c1, h1, rfl⟩ := concH_some hi
      obtain ⟨c2, h2, rfl⟩ := concH_some hj
      exact s.inj i j e e' c1 c2 h1 h2
    · obtain ⟨c1, h1, rfl⟩ := concH_some hj
      exact s.arrh i j E e c1 hE h1
  · intro s
    refine ⟨s.os, s.tape, s.output, s.size, s.fr, s.sealed, s.le, s.grow, fun i e cs hi => ?_, fun i cs hi j c hc => ?_, fun i j e e' cs cs' hi hj => ?_, s.arr, s.arrd, fun i j E e cs hE hj => ?_⟩
    · obtain ⟨q1, q2, q3⟩ := s.loc i e _ (concH_of hi)
      rw [concL_den hβ] at q2
      exact ⟨q1, q2, q3⟩
    · have := s.ro i _ (concH_of hi) j (conc h g c) (by rw [List.getElem?_map, hc]; rfl)
      rw [conc_den hβ] at this
      exact this
    · exact s.inj i j e e' _ _ (concH_of hi) (concH_of hj)
    · exact s.arrh i j E e _ hE (concH_of hj)
end
section
variable {cf : Cf} {Q : Exit → Act → World → Prop} {σ : Snap} {env : Env} {hp : HP} {A : List AE} {nh : Nat}
theorem Bd.concH {h g : Nat} (hb : Bd env hp nh) : Bd env (concH h g hp) nh := by
  refine ⟨hb.env, fun i k cs hi => ?_⟩
  obtain ⟨cs0, h1, rfl⟩ := concH_some hi
  obtain ⟨h2, h3⟩ := hb.hp i k cs0 h1
  refine ⟨h2, fun c hc => ?_⟩
  obtain ⟨c0, h4, rfl⟩ := List.mem_map.1 hc
  exact conc_lt (h3 c0 h4)
theorem oj_ownH {l : List Item} (h : Nat) {e : TypeId} {cs : List AT} (n sz : Nat) (hrow : hp.get h = some (.loc e, cs)) (hcs : ∀ c ∈ cs, c.lt 0) (hlen : cs.length = n * sz) (hn : n ≤ 9223372036854775807)
    (k : ∀ g, OJ cf l Q σ (concE h g env) (concH h g (HP.del h hp)) (A ++ [⟨some ⟨g, 0, none⟩, n, n, e, sz, cs.map AT.val⟩]) nh) : OJ cf l Q σ env hp A nh := by
  refine ⟨fun hb a β ha hex => ?_⟩
  obtain ⟨w, hw⟩ := hex
  have hβ : β h = ⟨(β h).block, 0, none⟩ := (hw.loc h e cs hrow).1
  have e1 : (fun w => StW cf σ hp A β w) = fun w => StW cf σ (concH h (β h).block (HP.del h hp)) (A ++ [⟨some ⟨(β h).block, 0, none⟩, n, n, e, sz, cs.map AT.val⟩]) β w := by
    funext w; exact propext ((StW.own hrow hcs hβ hlen (by simp only [maxLen]; exact hn)).trans (StW.concH hβ))
  rw [e1]
  exact (k _).run hb.conc.concH a β (ha.conc hβ) ⟨w, (congrFun e1 w) ▸ hw⟩
theorem cj_ownH {c : Code} (h : Nat) {e : TypeId} {cs : List AT} (n sz : Nat) (hrow : hp.get h = some (.loc e, cs)) (hcs : ∀ c ∈ cs, c.lt 0) (hlen : cs.length = n * sz) (hn : n ≤ 9223372036854775807)
    (k : ∀ g, CJ cf c Q σ (concE h g env) (concH h g (HP.del h hp)) (A ++ [⟨some ⟨g, 0, none⟩, n, n, e, sz, cs.map AT.val⟩]) nh) : CJ cf c Q σ env hp A nh := by
  refine ⟨fun hb a β w ha hw => ?_⟩
  have hβ : β h = ⟨(β h).block, 0, none⟩ := (hw.loc h e cs hrow).1
  exact (k _).run hb.conc.concH a β w (ha.conc hβ) ((StW.concH hβ).1 ((StW.own hrow hcs hβ hlen (by simp only [maxLen]; exact hn)).1 hw))
end
end Go.Sy
namespace Go.Sy
open Go.Proofs

/-! ### awake of layer 13 -/

def nullG : GVal := .mk 0 false dec0 emptyS [] [] []
def twoG : GVal := .mk 4 false dec0 emptyS [nullG, nullG] [] []
def aw13 : GVal := .mk 5 false dec0 emptyS [] [⟨#[97]⟩] [twoG]
def aw13L : List GRec := [⟨1, 8, 0, 5, false, emptyS, false, dec0, emptyS⟩, ⟨2, 7, 1, 4, true, ⟨#[97]⟩, false, dec0, emptyS⟩, ⟨3, 4, 2, 0, false, emptyS, false, dec0, emptyS⟩, ⟨5, 6, 2, 0, false, emptyS, false, dec0, emptyS⟩]
theorem aw13_shred : shredG aw13 1 = (aw13L, 0) := by decide
theorem aw13_sound : soundG aw13L = true := by decide
theorem aw13_ok : RecsOk aw13L := ⟨by decide, fun r hr => by simp only [aw13L, List.mem_cons, List.not_mem_nil, or_false] at hr; rcases hr with rfl | rfl | rfl | rfl <;> exact ⟨by decide, by decide, by decide⟩, fun _ => by decide⟩
def aw13P : List (List ByteArray) := [[], [⟨#[46, 97]⟩], [⟨#[46, 97]⟩, elemS], [⟨#[46, 97]⟩, elemS]]
theorem aw13_paths : pathsG aw13L = aw13P := by decide

theorem null_rep (σ : Snap) : RepV σ nullG (vCells nullG none 0 none 0) := by
  simp only [nullG, RepV]
  exact ⟨none, 0, [], none, 0, [], rfl, SlAt.nil _ _ _ _, rfl, rfl, SlAt.nil _ _ _ _, rfl, by decide, by decide, by decide, by decide, fun k h => (by cases h)⟩

theorem aw13_levels : levelsOk 0 aw13L := by
  refine ⟨by decide, by decide, ?_⟩
  refine ⟨by decide, by decide, ?_⟩
  refine ⟨by decide, by decide, ?_⟩
  exact ⟨by decide, by decide, trivial⟩
def aS : ByteArray := ⟨#[46, 97]⟩
theorem aw13_list {ps : List SRow} (h : ps.map SRow.ss = aw13P) : ∃ a0 c0 a1 c1 a2 c2 a3 c3, ps = [⟨a0, c0, []⟩, ⟨a1, c1, [aS]⟩, ⟨a2, c2, [aS, elemS]⟩, ⟨a3, c3, [aS, elemS]⟩] := by
  match ps, h with
  | [⟨a0, c0, s0⟩, ⟨a1, c1, s1⟩, ⟨a2, c2, s2⟩, ⟨a3, c3, s3⟩], h =>
    simp only [aw13P, List.map_cons, List.map_nil, List.cons.injEq, and_true] at h
    obtain ⟨rfl, rfl, rfl, rfl⟩ := h
    exact ⟨a0, c0, a1, c1, a2, c2, a3, c3, rfl⟩
def aw13X (a0 : Option Addr) (c0 : Nat) (a1 : Option Addr) (c1 : Nat) (a2 : Option Addr) (c2 : Nat) : List GLine := [⟨0, a0, c0, [], 1⟩, ⟨1, a1, c1, [aS], 1⟩, ⟨2, a2, c2, [aS, elemS], 2⟩]
theorem aw13_add (a0 : Option Addr) (c0 : Nat) (a1 : Option Addr) (c1 : Nat) (a2 : Option Addr) (c2 : Nat) (a3 : Option Addr) (c3 : Nat) :
    addAll ⟨[], 0, []⟩ [⟨a0, c0, []⟩, ⟨a1, c1, [aS]⟩, ⟨a2, c2, [aS, elemS]⟩, ⟨a3, c3, [aS, elemS]⟩] = ⟨aw13X a0 c0 a1 c1 a2 c2, 3, [0, 1, 2, 2]⟩ := rfl
theorem aw13_find (a0 : Option Addr) (c0 : Nat) (a1 : Option Addr) (c1 : Nat) (a2 : Option Addr) (c2 : Nat) : findIdG (aw13X a0 c0 a1 c1 a2 c2) [aS, elemS] = 2 := rfl
theorem aw13_gsound (a0 : Option Addr) (c0 : Nat) (a1 : Option Addr) (c1 : Nat) (a2 : Option Addr) (c2 : Nat) : soundGd (aw13X a0 c0 a1 c1 a2 c2) 3 = true := rfl

set_option maxRecDepth 100000 in
set_option maxHeartbeats 1000000 in
theorem awake13_c (σ : Snap) : PlainS Tryd.prog 46 [] σ (fun v => v = .bool true) := by
  refine enter_p Tryd.func46 rfl rfl (by (repeat' exact trivial)) fun w => ?_
  (repeat (first | refine cj_seq ?_ | (refine cj_region ?_; refine oj_run TT rfl ?_) | refine oj_then ?_))
  refine oj_makeSliceN (n := 2) TT _ rfl rfl rfl rfl rfl rfl rfl rfl rfl rfl (by decide) (by decide) (madeCells_rep ((vCells nullG none 0 none 0).map AT.val) 2) fun g0 => ?_
  refine oj_seal 0 rfl rfl rfl fun σ1 hle1 hS => ?_
  have H1 : SlAt σ1 (some ⟨g0, 0, none⟩) 2 2 8 [vCells nullG none 0 none 0, vCells nullG none 0 none 0] := hS.sl (rows := [vCells nullG none 0 none 0, vCells nullG none 0 none 0]) rfl (fun r hr => by
    simp only [List.mem_cons, List.not_mem_nil, or_false] at hr
    rcases hr with rfl | rfl <;> exact ⟨rfl, vCells_lt _ _ _ _ _ _⟩) rfl rfl (Nat.le_refl _)
  have R1 : RepV σ1 twoG (vCells twoG (some ⟨g0, 0, none⟩) 2 none 0) := by
    simp only [twoG, RepV]
    exact ⟨some ⟨g0, 0, none⟩, 2, _, none, 0, [], rfl, H1, ⟨_, _, rfl, null_rep σ1, _, _, rfl, null_rep σ1, rfl⟩, rfl, SlAt.nil _ _ _ _, rfl, by decide, by decide, by decide, by decide, fun k h => (by cases h)⟩
  refine oj_run TT rfl ?_
  refine oj_ownH 0 1 9 rfl (by (repeat' (first | exact trivial | refine AllLt.of ?_ | constructor))) rfl (by decide) fun g1 => ?_
  refine oj_seal 0 rfl rfl rfl fun σ2 hle2 hS => ?_
  have H2 : SlAt σ2 (some ⟨g1, 0, none⟩) 1 1 9 (keyRows [⟨#[97]⟩] [vCells twoG (some ⟨g0, 0, none⟩) 2 none 0]) := hS.sl (rows := keyRows [⟨#[97]⟩] [vCells twoG (some ⟨g0, 0, none⟩) 2 none 0]) rfl (fun r hr => by
    simp only [keyRows, List.mem_singleton] at hr
    subst hr
    exact ⟨rfl, by (repeat' (first | exact trivial | refine AllLt.of ?_ | constructor))⟩) rfl rfl (Nat.le_refl _)
  have hrep : RepV σ2 aw13 (vCells aw13 none 0 (some ⟨g1, 0, none⟩) 1) := by
    simp only [aw13, RepV]
    exact ⟨none, 0, [], some ⟨g1, 0, none⟩, 1, _, rfl, SlAt.nil _ _ _ _, rfl, rfl, H2, ⟨_, _, rfl, R1.mono hle2, rfl⟩, by decide, by decide, by decide, by decide, fun k h => (by rw [List.mem_singleton.1 h]; decide)⟩
  (repeat (first | refine cj_seq ?_ | (refine cj_region ?_; refine oj_run TT rfl ?_) | refine oj_then ?_))
  refine oj_set 13 (.agg (vCells aw13 none 0 (some ⟨g1, 0, none⟩) 1)) rfl (vCells_lt _ _ _ _ _ _) (fun _ => rfl) ?_
  refine oj_callS rfl rfl rfl rfl rfl Tryd.call21 ⟨vCells_lt _ _ _ _ _ _, trivial, trivial⟩ (Shred_s σ2 aw13 _ 1 hrep (by decide)) fun v σ3 hle3 ⟨ao, cap, hv, H⟩ => ⟨.tup [.a (.v (.slice ao 4 cap)), .a (.v (.int .i64 0))], (by (repeat' (first | exact trivial | refine SV.lt_tup ?_ | constructor))), (by rw [hv, aw13_shred]; rfl), ?_⟩
  rw [aw13_shred] at H
  have H : SlAt σ3 ao 4 cap 11 (recRows aw13L) := H
  refine oj_run TT rfl ?_
  (repeat (first | refine cj_seq ?_ | (refine cj_region ?_; refine oj_run TT rfl ?_) | refine oj_then ?_))
  refine oj_callS rfl rfl rfl rfl rfl Tryd.call53 (by (repeat' (first | exact trivial | constructor))) (Paths_c σ3 aw13L aw13_ok (by decide) aw13_sound aw13_levels ao cap H) fun v σ4 hle4 ⟨ps, oo, oc, hv, HP, hps, hpe⟩ => ⟨.a (.v (.slice oo ps.length oc)), trivial, hv.symm, ?_⟩
  rw [aw13_paths] at hpe
  obtain ⟨a0, c0, a1, c1, a2, c2, a3, c3, rfl⟩ := aw13_list hpe
  refine oj_run TT rfl ?_
  (repeat (first | refine cj_seq ?_ | (refine cj_region ?_; refine oj_run TT rfl ?_) | refine oj_then ?_))
  refine oj_callS rfl rfl rfl rfl rfl Tryd.call48 (by (repeat' (first | exact trivial | refine AllLt.of ?_ | constructor))) (Add_c σ4 [] 0 none 0 (SlAt.nil _ _ _ _) (fun _ h => (by cases h)) _ oo oc HP hps 0 ⟨Nat.le_refl _, Nat.le_refl _, by decide, fun _ h => (by cases h)⟩ (by show 0 + 4 ≤ 1000000; decide)) fun v σ5 hle5 ⟨bo, bc, io, ic, hv, HX, HI⟩ => ⟨.tup [.agg [.v (.slice bo 3 bc), .v (.int .i64 3)], .a (.v (.slice io 4 ic))], (by (repeat' (first | exact trivial | refine AllLt.of ?_ | refine SV.lt_tup ?_ | constructor))), (by rw [hv, aw13_add]; rfl), ?_⟩
  have hok := addAll_ok (σ := σ5) _ (s := ⟨[], 0, []⟩) (fun _ h => (by cases h)) (fun p h => (hps p h).mono hle5)
  rw [aw13_add] at HX HI hok
  dsimp only at HX HI hok
  have hX2 : (lnRows (aw13X a0 c0 a1 c1 a2 c2))[(2 : Int).toNat]? = some (lnCells ⟨2, a2, c2, [aS, elemS], 2⟩) := rfl
  have hX3 := aw13_find a0 c0 a1 c1 a2 c2
  have hX4 := aw13_gsound a0 c0 a1 c1 a2 c2
  have hXl : (aw13X a0 c0 a1 c1 a2 c2).length = 3 := rfl
  generalize aw13X a0 c0 a1 c1 a2 c2 = X at *
  rw [hXl] at HX
  refine oj_run TT rfl ?_
  (repeat (first | refine cj_seq ?_ | (refine cj_region ?_; refine oj_run TT rfl ?_) | refine oj_then ?_))
  refine oj_split 27 rfl (fun h => ?_) (fun h => absurd h (by decide))
  refine oj_run TT rfl ?_
  refine oj_split 32 rfl (fun h => ?_) (fun h => absurd (show decide ((4 : Int) = 4) = false from h) (by decide))
  refine oj_run TT rfl ?_
  refine oj_split 38 rfl (fun h => ?_) (fun h => absurd h (by decide))
  refine oj_run TT rfl ?_
  refine oj_idx TT rfl rfl rfl rfl rfl rfl rfl rfl rfl HX (by decide) hX2 (oj_run TT rfl ?_)
  refine oj_split 46 rfl (fun h => ?_) (fun h => absurd (show decide ((2 : Int) = 2) = false from h) (by decide))
  refine oj_run TT rfl ?_
  refine oj_split 51 rfl (fun h => ?_) (fun h => absurd h (by decide))
  refine oj_run TT rfl ?_
  refine oj_idx TT rfl rfl rfl rfl rfl rfl rfl rfl rfl HI (by decide) (show (idRows [0, 1, 2, 2])[(3 : Int).toNat]? = some [.v (.int .i64 2)] from rfl) (oj_run TT rfl ?_)
  refine oj_split 57 rfl (fun h => ?_) (fun h => absurd h (by decide))
  refine oj_run TT rfl ?_
  refine oj_own 5 2 1 rfl (by (repeat' (first | exact trivial | refine AllLt.of ?_ | constructor))) rfl (by decide) fun g5 => ?_
  refine oj_seal 0 rfl rfl rfl fun σ6 hle6 hS => ?_
  have HS : SlAt σ6 (some ⟨g5, 0, none⟩) 2 2 1 (strRows [aS, elemS]) := hS.sl (rows := strRows [aS, elemS]) rfl (fun r hr => ⟨(strRows_all _ r hr).1, (strRows_all _ r hr).2.1⟩) rfl rfl (Nat.le_refl _)
  have HX := HX.mono hle6
  have hok := fun x h => (hok x h).mono hle6
  have HX : SlAt σ6 bo X.length bc 3 (lnRows X) := by rw [hXl]; exact HX
  have hf := FindGd_c σ6 X (by rw [hXl]; decide) bo bc 3 HX hok [aS, elemS] (some ⟨g5, 0, none⟩) 2 HS
  have hs := SoundGd_c σ6 X (by rw [hXl]; decide) bo bc 3 HX hok
  rw [hXl] at hf hs
  refine oj_callP rfl rfl rfl rfl rfl Tryd.call49 (by (repeat' (first | exact trivial | refine AllLt.of ?_ | constructor))) hf fun v hv => ⟨.a (.v (.int .i64 2)), trivial, (by rw [hv, hX3]; rfl), ?_⟩
  refine oj_run TT rfl ?_
  refine oj_split 63 rfl (fun h => ?_) (fun h => absurd h (by decide))
  refine oj_run TT rfl ?_
  refine oj_callP rfl rfl rfl rfl rfl Tryd.call52 (by (repeat' (first | exact trivial | refine AllLt.of ?_ | constructor))) hs fun v hv => ⟨.a .tt, trivial, (by rw [hv, hX4]; rfl), ?_⟩
  refine oj_run TT rfl ?_
  (repeat (first | refine oj_then ?_ | refine cj_ret ?_))
  refine nj_ret TT rfl fun β w' _ _ => ?_
  rfl
end Go.Sy
/- Regions whose orders fork: of two operations that change the world, either may come first, and both ways are gone. No program in sight. -/
namespace Go.Sy

/-- THE JUDGEMENT INSIDE A REGION: these are listed, n are to come. -/
structure GJ (cf : Cf) (ops : Array Oper) (U bef : List Nat) (n : Nat) (listed : Array Bool) (fst : Bool) (Q : Exit → Act → World → Prop) (σ : Snap) (env : Env) (hp : HP) (A : List AE) (nh : Nat) : Prop where
  run : Region.noSelect ops = true → Bd env hp nh → ∀ a β, StA cf env β a → (∃ w, StW cf σ hp A β w) → Closed ops listed → ∀ E0 : World → Prop, (∀ x, StW cf σ hp A β x → E0 x) →
    (fst = true → ∀ x, E0 x → StW cf σ hp A β x) → wpAnyC cf.P ops U Q n listed a E0 (fun w => StW cf σ hp A β w)
/-- The same, j being next. -/
structure GK (cf : Cf) (ops : Array Oper) (U bef : List Nat) (n : Nat) (listed : Array Bool) (j : Nat) (Q : Exit → Act → World → Prop) (σ : Snap) (env : Env) (hp : HP) (A : List AE) (nh : Nat) : Prop where
  run : Region.noSelect ops = true → Bd env hp nh → ∀ a β, StA cf env β a → (∃ w, StW cf σ hp A β w) → Closed ops listed → j ∈ Region.ready .any ops listed → ∀ E0 : World → Prop, (∀ x, StW cf σ hp A β x → E0 x) →
    stepC cf.P ops U Q j (wpAnyC cf.P ops U Q n (listed.setIfInBounds j true)) a E0 (fun w => StW cf σ hp A β w)

section
variable {cf : Cf} {Q : Exit → Act → World → Prop} {σ : Snap} {env : Env} {hp : HP} {A : List AE} {nh : Nat} {ops : Array Oper} {U bef : List Nat} {n : Nat} {listed : Array Bool} {fst : Bool}

theorem cj_drawG {id : Nat} (m : Nat) (U : List Nat) (hm : cf.P.follows .mixedOrders = true) (hs : Region.noSelect ops = true) (hn : ops.size = m)
    (h : GJ cf ops U [] m (Array.replicate m false) true Q σ env hp A nh) (hd : okRd cf.rd ops = true := by rfl) : CJ cf (.region id ops true) Q σ env hp A nh := by
  subst hn
  refine ⟨fun hb a β w ha hw => wpIn_region_any hm ?_⟩
  have hc : Closed ops (Array.replicate ops.size false) := ⟨by simp, fun j oj _ hl => by
    exfalso
    rcases Nat.lt_or_ge j ops.size with h | h
    · simp [h] at hl
    · simp [h] at hl⟩
  exact wpAnyIn_of_C (okRd_mem hd) _ _ _ _ _ _ hw.drew (h.run hs hb a β ha ⟨_, hw⟩ hc _ (fun _ h => h) (fun _ _ h => h))

/-- One value, told. -/
theorem gj_valT {i d : Nat} {o : Oper} (y : SV) (hi : ops[i]? = some o) (hr : (Region.ready .any ops listed).contains i = true) (hf : Region.free .any ops listed i = true) (hk : (U.contains i || fst) = true)
    (hd : o.dst = some d) (hg : guardVal (slotOf ops o) env = some true) (hN : Nat.blt d cf.N = true) (hlt : y.lt nh)
    (hrun : Bd env hp nh → ∀ a β, StA cf env β a → ∀ w, (U.contains i = false → StW cf σ hp A β w) → (execOp a.eval o).run cf.P w = .ok (.value (y.den β)) w)
    (k : GJ cf ops U (bef ++ [i]) n (listed.setIfInBounds i true) fst Q σ ((d, y) :: env) hp A nh) : GJ cf ops U bef (n + 1) listed fst Q σ env hp A nh := by
  refine ⟨fun hs hb a β ha hex hc E0 hE hF => ?_⟩
  have hN' : d < cf.N := by simpa [Nat.blt_eq] using hN
  have hr' : i ∈ Region.ready .any ops listed := by simpa using hr
  have hw : Region.wanted o (yielded ops a.tmps) = true := by rw [← wantedS_slotOf]; exact guardVal_ok ha hg
  have hrest := k.run hs (hb.put hlt d) _ β (ha.put hN' y) hex (hc.set hr') E0 hE hF
  refine wpAnyC_first hi (Region.noSelect_spec hs) n listed a E0 _ hc hE (Region.free_spec hi hf) hr' ⟨.inl ⟨hw, fun w hE0 => .inl ?_⟩, fun hu => .inl ⟨hw, fun w _ => .inl ?_⟩⟩ (by rw [hd]; exact hrest)
  · refine hrun hb a β ha w fun hu => ?_
    rw [hu, Bool.false_or] at hk
    exact hF hk w hE0
  · exact hrun hb a β ha w fun hu' => absurd (List.contains_iff_mem.2 hu) (by rw [hu']; simp)

/-- One value, reckoned. -/
theorem gj_val {i d : Nat} {o : Oper} {T : List (Nat × TI)} (hT : TTok cf.P T) {x : SV} (hi : ops[i]? = some o) (hr : (Region.ready .any ops listed).contains i = true) (hf : Region.free .any ops listed i = true)
    (hk : (bif U.contains i then !isLoad o.op else fst) = true) (hd : o.dst = some d) (hg : guardVal (slotOf ops o) env = some true) (hN : Nat.blt d cf.N = true) (h : stepOp T o.op env hp nh = some (.val x))
    (k : GJ cf ops U (bef ++ [i]) n (listed.setIfInBounds i true) fst Q σ ((d, x) :: env) hp A nh) : GJ cf ops U bef (n + 1) listed fst Q σ env hp A nh := by
  refine ⟨fun hs hb a β ha hex hc E0 hE hF => ?_⟩
  have hx : x.lt nh := (step_ok (o := o) hT ha hb h).1
  refine (gj_valT x hi hr hf ?_ hd hg hN hx (fun hb a β ha w hw => ?_) k).run hs hb a β ha hex hc E0 hE hF
  · cases hu : U.contains i <;> rw [hu] at hk
    · simpa using hk
    · rfl
  · refine (step_ok (o := o) hT ha hb h).2 w fun hl => ⟨σ, A, hw ?_⟩
    cases hu : U.contains i with
    | false => rfl
    | true => rw [hu, cond_true, hl] at hk; cases hk

/-- What is not wanted. -/
theorem gj_skip {i d : Nat} {o : Oper} (hi : ops[i]? = some o) (hr : (Region.ready .any ops listed).contains i = true) (hf : Region.free .any ops listed i = true) (hd : o.dst = some d) (hg : guardVal (slotOf ops o) env = some false)
    (hN : Nat.blt d cf.N = true) (k : GJ cf ops U (bef ++ [i]) n (listed.setIfInBounds i true) fst Q σ ((d, undefSV) :: env) hp A nh) : GJ cf ops U bef (n + 1) listed fst Q σ env hp A nh := by
  refine ⟨fun hs hb a β ha hex hc E0 hE hF => ?_⟩
  have hN' : d < cf.N := by simpa [Nat.blt_eq] using hN
  have hr' : i ∈ Region.ready .any ops listed := by simpa using hr
  have hw : Region.wanted o (yielded ops a.tmps) = false := by rw [← wantedS_slotOf]; exact guardVal_ok ha hg
  have hrest := k.run hs (hb.put (undef_lt nh) d) _ β (ha.put hN' undefSV) hex (hc.set hr') E0 hE hF
  exact wpAnyC_first hi (Region.noSelect_spec hs) n listed a E0 _ hc hE (Region.free_spec hi hf) hr' ⟨.inr ⟨hw, rfl⟩, fun _ => .inr ⟨hw, rfl⟩⟩ (by rw [hd]; exact hrest)

/-- All that may come next. -/
theorem gj_fork (js : List Nat) (hr : (Region.ready .any ops listed == js) = true) (hne : js.isEmpty = false) (k : ∀ j, j ∈ js → GK cf ops U bef n listed j Q σ env hp A nh) : GJ cf ops U bef (n + 1) listed fst Q σ env hp A nh := by
  refine ⟨fun hs hb a β ha hex hc E0 hE hF => ?_⟩
  have hr' := eq_of_beq hr
  refine ⟨fun h0 => ?_, fun j hj => (k j (by rw [← hr']; exact hj)).run hs hb a β ha hex hc hj E0 hE⟩
  rw [hr'] at h0
  subst h0
  cases hne
theorem gj_one {i : Nat} (hr : (Region.ready .any ops listed == [i]) = true) (k : GK cf ops U bef n listed i Q σ env hp A nh) : GJ cf ops U bef (n + 1) listed fst Q σ env hp A nh :=
  gj_fork [i] hr rfl fun j hj => by rw [List.mem_singleton] at hj; subst hj; exact k
theorem gj_two {i j : Nat} (hr : (Region.ready .any ops listed == [i, j]) = true) (ki : GK cf ops U bef n listed i Q σ env hp A nh) (kj : GK cf ops U bef n listed j Q σ env hp A nh) : GJ cf ops U bef (n + 1) listed fst Q σ env hp A nh :=
  gj_fork [i, j] hr rfl fun m hm => by
    simp only [List.mem_cons, List.not_mem_nil, or_false] at hm
    rcases hm with rfl | rfl
    · exact ki
    · exact kj

/-- A call of a function that changes nothing. -/
theorem gk_call {j d : Nat} {o : Oper} {f : FuncId} {ys : List SV} {Φ : Value → Snap → Prop} (hj : ops[j]? = some o) (hc : callee env o.op = some (f, ys)) (hd : o.dst = some d) (hg : guardVal (slotOf ops o) env = some true)
    (hN : Nat.blt d cf.N = true) (hcall : ∀ args w, (callFunc f args).run cf.P w = .ok (.enter f args) w) (hlt : LtAll ys) (hC : PureS cf.P f ys σ Φ)
    (k : ∀ v σ', σ.le σ' → Φ v σ' → ∃ y : SV, y.lt 0 ∧ y.den β0 = v ∧ GJ cf ops U (bef ++ [j]) n (listed.setIfInBounds j true) false Q σ' ((d, y) :: env) hp A nh) : GK cf ops U bef n listed j Q σ env hp A nh := by
  refine ⟨fun hs hb a β ha hex hcl hr E0 hE => ?_⟩
  have hN' : d < cf.N := by simpa [Nat.blt_eq] using hN
  have den0 : ∀ {y : SV}, y.lt 0 → y.den β = y.den β0 := fun hy => SV.den_congr (n := 0) (fun i hi => by omega) hy
  have hargs : (ys.map (SV.den β)).toArray = (ys.map (SV.den β0)).toArray := by
    rw [List.map_congr_left fun y hy => den0 (hlt.of y hy)]
  have hwant : Region.wanted o (yielded ops a.tmps) = true := by rw [← wantedS_slotOf]; exact guardVal_ok ha hg
  unfold stepC
  simp only [hj]
  rw [if_pos hwant]
  intro w hw
  unfold Oper.wq
  rw [callee_ok ha hc hcall]
  simp only [Oper.uponIn]
  rw [hargs]
  refine ⟨fun h => (by cases h), CallsIn.mono (callsIn_FR.2 (hC w hw.sealed)) fun e w' ⟨v, σ', he, h1, h2, h3, h4⟩ => ?_⟩
  subst he
  have hw' := hw.after h1 h2 h3
  have hσ : ∀ {b}, σ' b = none → σ b = none := fun hb => Snap.none_of_le h2.le hb
  have hsub : ∀ x, StW cf σ' hp A β x → StW cf σ hp A β x := by
    intro x hx
    refine ⟨hx.os, hx.tape, hx.output, hx.size, hx.fr, fun b o hb => hx.sealed b o (h2.le b o hb), hw.le, hw.grow, fun i e cs hi => ?_, hw.ro, hx.inj, fun i E hE => (hx.arr i E hE).weak hσ, hx.arrd, hx.arrh⟩
    obtain ⟨q1, q2, q3, q4⟩ := hx.loc i e cs hi
    exact ⟨q1, q2, hσ q3, q4⟩
  obtain ⟨y, hy, hyv, hk⟩ := k v σ' h2.le h4
  refine ⟨E0, _, hw', fun x hx => hE x (hsub x hx), .inl fun _ h => h, ?_⟩
  have := hk.run hs (hb.put (SV.lt_mono (Nat.zero_le _) hy) d) (a.put (some d) (y.den β)) β (ha.put hN' y) ⟨_, hw'⟩ (hcl.set hr) E0 (fun x hx => hE x (hsub x hx)) (fun h => by cases h)
  rw [hd, ← hyv, ← den0 hy]
  exact this
theorem gk_callP {j d : Nat} {o : Oper} {f : FuncId} {ys : List SV} {Φ : Value → Prop} (hj : ops[j]? = some o) (hc : callee env o.op = some (f, ys)) (hd : o.dst = some d) (hg : guardVal (slotOf ops o) env = some true)
    (hN : Nat.blt d cf.N = true) (hcall : ∀ args w, (callFunc f args).run cf.P w = .ok (.enter f args) w) (hlt : LtAll ys) (hC : PlainS cf.P f ys σ Φ)
    (k : ∀ v, Φ v → ∃ y : SV, y.lt 0 ∧ y.den β0 = v ∧ GJ cf ops U (bef ++ [j]) n (listed.setIfInBounds j true) false Q σ ((d, y) :: env) hp A nh) : GK cf ops U bef n listed j Q σ env hp A nh := by
  refine gk_call (Φ := fun v σ' => Φ v ∧ σ' = σ) hj hc hd hg hN hcall hlt ?_ fun v σ' _ ⟨hv, he⟩ => by subst he; exact k v hv
  intro w hs
  exact Calls.mono (hC w hs) fun e w' ⟨v, σ', he, h1, h2, h3, h4⟩ => ⟨v, σ, he, h1, ⟨Snap.le_refl σ, fun b hb => .inl hb⟩, fun b o hb => h3 b o (h2.le b o hb), h4, rfl⟩

/-- A new row. -/
theorem gk_new {j d : Nat} {o : Oper} {T : List (Nat × TI)} (hT : TTok cf.P T) {e : TypeId} {cs : List AT} {x : AT} (hj : ops[j]? = some o) (h : stepOp T o.op env hp nh = some (.new e cs x)) (hd : o.dst = some d) (hg : guardVal (slotOf ops o) env = some true)
    (hN : Nat.blt d cf.N = true) (k : GJ cf ops U (bef ++ [j]) n (listed.setIfInBounds j true) false Q σ ((d, .a x) :: env) ((nh, .loc e, cs) :: hp) A (nh + 1)) : GK cf ops U bef n listed j Q σ env hp A nh := by
  refine ⟨fun hs hb a β ha hex hcl hr E0 hE => ?_⟩
  have hN' : d < cf.N := by simpa [Nat.blt_eq] using hN
  have hwant : Region.wanted o (yielded ops a.tmps) = true := by rw [← wantedS_slotOf]; exact guardVal_ok ha hg
  obtain ⟨hcs, hx, hrun⟩ := step_ok (o := o) hT ha hb h
  have hxl : (SV.a x).lt (nh + 1) := by
    rcases hx with rfl | ⟨n, rfl⟩ <;> exact Nat.lt_succ_self nh
  unfold stepC
  simp only [hj]
  rw [if_pos hwant]
  intro w hw
  unfold Oper.wq
  rw [hrun w]
  have hw' := hw.alloc (e := e) hb hcs
  have hβ := upd_old β nh w
  have hg2 : ∀ {i k l}, hp.get i = some (k, l) → HP.get ((nh, HK.loc e, cs) :: hp) i = some (k, l) := by
    intro i k l hi
    have hlt := (hb.hp i k l hi).1
    rw [HP.get_cons, if_neg (by omega)]
    exact hi
  have keepS : ∀ w', StW cf σ ((nh, .loc e, cs) :: hp) A (upd β nh w) w' → StW cf σ hp A β w' := by
    intro w' s
    refine ⟨s.os, s.tape, s.output, s.size, s.fr, s.sealed, s.le, s.grow, fun i e' l hi => ?_, fun i l hi j c hc => ?_, fun i j e1 e2 l1 l2 hi hj heq => ?_, s.arr, s.arrd, fun i j E e' l hE hj => ?_⟩
    · obtain ⟨hlt, hl⟩ := hb.hp i _ l hi
      have := s.loc i e' l (hg2 hi)
      rw [hβ i hlt, AT.denL_congr hβ hl] at this
      exact this
    · obtain ⟨hlt, hl⟩ := hb.hp i _ l hi
      have := s.ro i l (hg2 hi) j c hc
      rw [hβ i hlt, AT.den_congr hβ (hl c (List.mem_of_getElem? hc))] at this
      exact this
    · have h1 := (hb.hp i _ l1 hi).1
      have h2 := (hb.hp j _ l2 hj).1
      exact s.inj i j e1 e2 l1 l2 (hg2 hi) (hg2 hj) (by rw [hβ i h1, hβ j h2]; exact heq)
    · have h1 := (hb.hp j _ l hj).1
      have := s.arrh i j E e' l hE (hg2 hj)
      rw [hβ j h1] at this
      exact this
  refine ⟨E0, _, hw', fun x hx => hE x (keepS x hx), .inl fun _ h => h, ?_⟩
  rw [hd]
  exact k.run hs ((hb.mono (Nat.le_succ nh)).row (Nat.lt_succ_self nh) (fun c hc => AT.lt_mono (Nat.le_succ nh) (hcs c hc)) |>.put hxl d) _ (upd β nh w) ((ha.congr hb hβ).put hN' (.a x)) ⟨_, hw'⟩ (hcl.set hr) E0 (fun x hx => hE x (keepS x hx)) (fun h => by cases h)

/-- The rest, in one order. -/
theorem gj_order (l : List (Nat × Tag)) (hl : (l.all fun p => decide (p.1 < ops.size)) = true) (hq : noQuiet (itemsOf ops l) = true) (ho : orderFrom ops U bef l listed = true) (h : OJ cf (itemsOf ops l) Q σ env hp A nh) :
    GJ cf ops U bef l.length listed fst Q σ env hp A nh := by
  refine ⟨fun hs hb a β ha hex hc E0 hE _ => ?_⟩
  have := run_wider hE _ _ a hq (h.run hb a β ha hex)
  exact run_order hs l bef listed a E0 _ hc hE (fun p hp => by simpa using List.all_eq_true.1 hl p hp) ho this

theorem gj_arith {i d : Nat} {o : Oper} {op : BinOp} {x y : Operand} {xt yt : TypeId} {kk : IntKind} {m k' : Int} (r : Int) (hop : o.op = .binOp op xt x y yt) (hi : ops[i]? = some o) (hr : (Region.ready .any ops listed).contains i = true) (hf : Region.free .any ops listed i = true) (hk : (U.contains i || fst) = true)
    (hd : o.dst = some d) (hg : guardVal (slotOf ops o) env = some true) (hN : Nat.blt d cf.N = true) (hx : evalO env x = some (.a (.v (.int kk m)))) (hy : evalO env y = some (.a (.v (.int kk k'))))
    (hrun : ∀ w P, (binOp op xt (.int kk m) (.int kk k')).run P w = .ok (.int kk r) w)
    (k : GJ cf ops U (bef ++ [i]) n (listed.setIfInBounds i true) fst Q σ ((d, .a (.v (.int kk r))) :: env) hp A nh) : GJ cf ops U bef (n + 1) listed fst Q σ env hp A nh := by
  refine gj_valT (.a (.v (.int kk r))) hi hr hf hk hd hg hN trivial (fun _ a β ha w _ => ?_) k
  have h1 : a.eval x = .int kk m := evalO_eval ha hx
  have h2 : a.eval y = .int kk k' := evalO_eval ha hy
  simp only [execOp, hop, h1, h2, eqGuard_at_int, Sem.run_bind, Sem.run_pure, Result.andThen_ok, hrun]
  rfl
theorem gj_add {i d : Nat} {o : Oper} {x y : Operand} {xt yt : TypeId} {m k' : Int} (hop : o.op = .binOp .add xt x y yt) (hi : ops[i]? = some o) (hr : (Region.ready .any ops listed).contains i = true) (hf : Region.free .any ops listed i = true) (hk : (U.contains i || fst) = true)
    (hd : o.dst = some d) (hg : guardVal (slotOf ops o) env = some true) (hN : Nat.blt d cf.N = true) (hx : evalO env x = some (.a (.v (.int .i64 m)))) (hy : evalO env y = some (.a (.v (.int .i64 k')))) (hb : -9223372036854775808 ≤ m + k' ∧ m + k' ≤ 9223372036854775807)
    (k : GJ cf ops U (bef ++ [i]) n (listed.setIfInBounds i true) fst Q σ ((d, .a (.v (.int .i64 (m + k')))) :: env) hp A nh) : GJ cf ops U bef (n + 1) listed fst Q σ env hp A nh :=
  gj_arith _ hop hi hr hf hk hd hg hN hx hy (run_add (IntWalk.i64_in _ hb)) k
theorem gj_minus {i d : Nat} {o : Oper} {x y : Operand} {xt yt : TypeId} {m k' : Int} (hop : o.op = .binOp .sub xt x y yt) (hi : ops[i]? = some o) (hr : (Region.ready .any ops listed).contains i = true) (hf : Region.free .any ops listed i = true) (hk : (U.contains i || fst) = true)
    (hd : o.dst = some d) (hg : guardVal (slotOf ops o) env = some true) (hN : Nat.blt d cf.N = true) (hx : evalO env x = some (.a (.v (.int .i64 m)))) (hy : evalO env y = some (.a (.v (.int .i64 k')))) (hb : -9223372036854775808 ≤ m - k' ∧ m - k' ≤ 9223372036854775807)
    (k : GJ cf ops U (bef ++ [i]) n (listed.setIfInBounds i true) fst Q σ ((d, .a (.v (.int .i64 (m - k')))) :: env) hp A nh) : GJ cf ops U bef (n + 1) listed fst Q σ env hp A nh :=
  gj_arith _ hop hi hr hf hk hd hg hN hx hy (run_sub (IntWalk.i64_in _ hb)) k
theorem gj_slice {i d : Nat} {o : Oper} {x : Operand} {lo hi' : Option Operand} {vl vh : Option Value} {t e : TypeId} {T : List (Nat × TI)} (hT : TTok cf.P T) {ti te : TI} {ao : Option Addr} {m cap : Nat} (l h : Nat) (hop : o.op = .slice t x lo hi' none) (hi : ops[i]? = some o) (hr : (Region.ready .any ops listed).contains i = true) (hf : Region.free .any ops listed i = true) (hk : (U.contains i || fst) = true)
    (hd : o.dst = some d) (hg : guardVal (slotOf ops o) env = some true) (hN : Nat.blt d cf.N = true) (hx : evalO env x = some (.a (.v (.slice ao m cap)))) (hlo : optV env lo = some vl) (hhi : optV env hi' = some vh)
    (ht : tget T t = some ti) (hkd : ti.kind = .slice e) (hte : tget T e = some te) (hl' : vl = none ∧ l = 0 ∨ ∃ k m, vl = some (.int k m) ∧ m = (l : Int)) (hh' : vh = none ∧ h = m ∨ ∃ k m, vh = some (.int k m) ∧ m = (h : Int)) (hlh : l ≤ h) (hhc : h ≤ cap) (hnc : m ≤ cap)
    (k : GJ cf ops U (bef ++ [i]) n (listed.setIfInBounds i true) fst Q σ ((d, .a (.v (.slice (if cap = l then ao else ao.map (·.add (l * te.size))) (h - l) (cap - l)))) :: env) hp A nh) : GJ cf ops U bef (n + 1) listed fst Q σ env hp A nh := by
  refine gj_valT (.a (.v (.slice (if cap = l then ao else ao.map (·.add (l * te.size))) (h - l) (cap - l)))) hi hr hf hk hd hg hN trivial (fun _ a β ha w _ => ?_) k
  obtain ⟨i2, d2, z2, hs2⟩ := tiOf_spec (hT _ _ ht)
  obtain ⟨i3, d3, z3, hs3⟩ := tiOf_spec (hT _ _ hte)
  have h1 := hs2.kind
  have hun : cf.P.underlying t = some (.slice e) := by
    rw [hkd] at h1
    have h2 := hs2.und
    cases d2 <;> first
      | (simp only [kindD, TK.slice.injEq] at h1; subst h1; exact h2)
      | (simp only [kindD] at h1; cases h1)
  have h2 : a.eval x = .slice ao m cap := evalO_eval ha hx
  simp only [execOp, hop, h2, optV_ok ha hlo, optV_ok ha hhi, Option.map_none, Instr.sliceAt, Instr.slice, Sem.run_bind, run_underlying hun, Result.andThen_ok, run_sliceBounds hl' hh' hlh hhc hnc, run_size hs3.info, hs3.size, Sem.run_pure]
  rfl
end
end Go.Sy
/- Plain laws on summaries that paths are counted in. No program in sight. -/
namespace Go.Sy

theorem findG_map {α β : Type} (q : β → Bool) (f : α → β) : ∀ (l : List α) (k : Nat), findG q (l.map f) k = findG (fun x => q (f x)) l k
  | [], _ => rfl
  | x :: l, k => by simp only [List.map_cons, findG, findG_map q f l]
theorem findG_ge {α : Type} (q : α → Bool) : ∀ (l : List α) (k : Nat), findG q l k = -1 ∨ (k : Int) ≤ findG q l k
  | [], _ => .inl rfl
  | x :: l, k => by
    simp only [findG]
    split
    · exact .inr (Int.le_refl _)
    · rcases findG_ge q l (k + 1) with h | h
      · exact .inl h
      · exact .inr (by omega)
theorem findG_app {α : Type} (q : α → Bool) : ∀ (l m : List α) (k : Nat), findG q (l ++ m) k = if findG q l k < 0 then findG q m (k + l.length) else findG q l k
  | [], m, k => by simp [findG]
  | x :: l, m, k => by
    simp only [List.cons_append, findG, List.length_cons]
    split
    · rw [if_neg (by omega)]
    · rw [findG_app q l m (k + 1), show k + 1 + l.length = k + (l.length + 1) by omega]
theorem findG_neg {α : Type} {q : α → Bool} : ∀ {l : List α} {k : Nat}, findG q l k < 0 → ∀ x ∈ l, q x = false
  | x :: l, k, h, y, hy => by
    simp only [findG] at h
    split at h
    · omega
    · rename_i hx
      cases hy with
      | head => simpa using hx
      | tail _ hy => exact findG_neg h y hy
theorem findG_some {α : Type} {q : α → Bool} : ∀ {l : List α} {k : Nat} {j : Nat}, findG q l k = (k + j : Nat) → ∃ x, l[j]? = some x ∧ q x = true
  | x :: l, k, j, h => by
    simp only [findG] at h
    split at h
    · rename_i hx
      have : j = 0 := by omega
      subst this
      exact ⟨x, rfl, hx⟩
    · have hb := findG_ge q l (k + 1)
      obtain ⟨j, rfl⟩ : ∃ i, j = i + 1 := ⟨j - 1, by omega⟩
      obtain ⟨y, h1, h2⟩ := findG_some (l := l) (k := k + 1) (j := j) (by rw [h]; congr 1; omega)
      exact ⟨y, by simpa using h1, h2⟩
  | [], k, j, h => by simp only [findG] at h; omega

theorem lineG_st (xs : List GLine) (s : List ByteArray) : lineG xs s = findG (fun t => decide (t = s)) (xs.map GLine.st) 0 := by
  rw [findG_map]
  rfl
theorem lineG_at {xs : List GLine} {s : List ByteArray} {j : Nat} (h : lineG xs s = j) : ∃ x, xs[j]? = some x ∧ x.st = s := by
  obtain ⟨x, h1, h2⟩ := findG_some (k := 0) (j := j) (by rw [Nat.zero_add]; exact h)
  exact ⟨x, h1, of_decide_eq_true h2⟩

theorem addOne_new {s : GSt} {p : SRow} (h : lineG s.xs p.ss < 0) : addOne s p = ⟨s.xs ++ [(newLn s.next p).more], s.next + 1, s.ids ++ [s.next]⟩ := if_pos h
theorem addOne_old {s : GSt} {p : SRow} {j : Nat} {x : GLine} (h : lineG s.xs p.ss = j) (hx : s.xs[j]? = some x) : addOne s p = ⟨s.xs.set j x.more, s.next, s.ids ++ [x.id]⟩ := by
  unfold addOne
  rw [if_neg (by omega), h, Int.toNat_natCast, hx]
theorem map_st_set {xs : List GLine} {j : Nat} {x : GLine} (hx : xs[j]? = some x) : (xs.set j x.more).map GLine.st = xs.map GLine.st := by
  rw [List.map_set]
  apply List.ext_getElem?
  intro i
  rw [List.getElem?_set]
  split
  · rename_i h
    subst h
    have hlt := (List.getElem?_eq_some_iff.1 hx).1
    rw [if_pos (by simpa using hlt), List.getElem?_map, hx]
    rfl
  · rfl

structure GInv (s : GSt) : Prop where
  next : s.next = s.xs.length
  at_ : ∀ (j : Nat) x, s.xs[j]? = some x → x.id = j ∧ 1 ≤ x.cnt ∧ lineG s.xs x.st = j

/-- What one more path does. -/
theorem addOne_spec {s : GSt} (h : GInv s) (p : SRow) : GInv (addOne s p) ∧ (∀ (j : Nat) x, s.xs[j]? = some x → ∃ y, (addOne s p).xs[j]? = some y ∧ y.st = x.st ∧ y.id = x.id) ∧
    ∃ (j : Nat) (y : GLine), (addOne s p).xs[j]? = some y ∧ y.st = p.ss ∧ (addOne s p).ids = s.ids ++ [y.id] := by
  have hbd := lineG_bd s.xs p.ss
  by_cases hn : lineG s.xs p.ss < 0
  · rw [addOne_new hn]
    refine ⟨⟨by rw [h.next]; simp, fun j x hx => ?_⟩, fun j x hx => ⟨x, ?_, rfl, rfl⟩, s.xs.length, (newLn s.next p).more, by simp, rfl, rfl⟩
    · dsimp only at hx ⊢
      by_cases hj : j < s.xs.length
      · rw [List.getElem?_append_left hj] at hx
        obtain ⟨h1, h2, h3⟩ := h.at_ j x hx
        refine ⟨h1, h2, ?_⟩
        unfold lineG at h3 ⊢
        rw [findG_app, if_neg (by omega), h3]
      · rw [List.getElem?_append_right (by omega)] at hx
        have hj0 : j - s.xs.length = 0 := by
          have := (List.getElem?_eq_some_iff.1 hx).1
          simpa using this
        rw [hj0] at hx
        simp only [List.getElem?_cons_zero, Option.some.injEq] at hx
        subst hx
        have hjl : j = s.xs.length := by omega
        subst hjl
        refine ⟨h.next, Int.le_refl _, ?_⟩
        unfold lineG at hn ⊢
        rw [findG_app]
        show (if findG (fun x => decide (x.st = p.ss)) s.xs 0 < 0 then findG (fun x => decide (x.st = p.ss)) [(newLn s.next p).more] (0 + s.xs.length) else _) = _
        rw [if_pos hn]
        simp only [findG]
        rw [if_pos (show decide ((newLn s.next p).more.st = p.ss) = true from decide_eq_true rfl), Nat.zero_add]
    · dsimp only
      rw [List.getElem?_append_left (List.getElem?_eq_some_iff.1 hx).1]
      exact hx
  · obtain ⟨j, hj⟩ : ∃ j : Nat, lineG s.xs p.ss = j := ⟨(lineG s.xs p.ss).toNat, by omega⟩
    obtain ⟨x, hx, hst⟩ := lineG_at hj
    have hlt := (List.getElem?_eq_some_iff.1 hx).1
    rw [addOne_old hj hx]
    have hl : ∀ t, lineG (s.xs.set j x.more) t = lineG s.xs t := fun t => by rw [lineG_st, lineG_st, map_st_set hx]
    have hself : (s.xs.set j x.more)[j]? = some x.more := by rw [List.getElem?_set, if_pos rfl, if_pos hlt]
    refine ⟨⟨by dsimp only; rw [List.length_set]; exact h.next, fun i y hy => ?_⟩, fun i y hy => ?_, j, x.more, hself, hst, rfl⟩
    · dsimp only at hy ⊢
      rw [hl]
      by_cases hij : j = i
      · subst hij
        rw [hself] at hy
        obtain rfl := Option.some.inj hy
        obtain ⟨h1, h2, h3⟩ := h.at_ j x hx
        exact ⟨h1, by show 1 ≤ x.cnt + 1; omega, h3⟩
      · rw [List.getElem?_set, if_neg hij] at hy
        exact h.at_ i y hy
    · dsimp only
      by_cases hij : j = i
      · subst hij
        rw [hx] at hy
        obtain rfl := Option.some.inj hy
        exact ⟨x.more, hself, rfl, rfl⟩
      · exact ⟨y, by rw [List.getElem?_set, if_neg hij]; exact hy, rfl, rfl⟩

theorem addAll_inv : ∀ (ps : List SRow) {s : GSt}, GInv s → GInv (addAll s ps) ∧ (∀ (j : Nat) x, s.xs[j]? = some x → ∃ y, (addAll s ps).xs[j]? = some y ∧ y.st = x.st ∧ y.id = x.id) ∧
    ∃ t, (addAll s ps).ids = s.ids ++ t ∧ t.length = ps.length
  | [], s, h => ⟨h, fun j x hx => ⟨x, hx, rfl, rfl⟩, [], by rw [List.append_nil]; rfl, rfl⟩
  | p :: ps, s, h => by
    obtain ⟨h1, h2, j0, y0, h3, h4, h5⟩ := addOne_spec h p
    obtain ⟨g1, g2, t, g3, g4⟩ := addAll_inv ps h1
    refine ⟨g1, fun j x hx => ?_, y0.id :: t, ?_, by simp [g4]⟩
    · obtain ⟨y, a1, a2, a3⟩ := h2 j x hx
      obtain ⟨z, b1, b2, b3⟩ := g2 j y a1
      exact ⟨z, b1, b2.trans a2, b3.trans a3⟩
    · show (addAll (addOne s p) ps).ids = _
      rw [g3, h5, List.append_assoc]
      rfl
theorem inv0 : GInv ⟨[], 0, []⟩ := ⟨rfl, fun j x hx => by simp at hx⟩

theorem findId_of {s : GSt} (h : GInv s) {j : Nat} {y : GLine} (hy : s.xs[j]? = some y) : findIdG s.xs y.st = y.id := by
  unfold findIdG
  rw [(h.at_ j y hy).2.2, Int.toNat_natCast, hy]
  dsimp only
  rw [if_neg (by omega)]

theorem addOne_ids (xs : List GLine) (next : Int) (ids : List Int) (p : SRow) : (addOne ⟨xs, next, ids⟩ p).xs = (addOne ⟨xs, next, []⟩ p).xs ∧ (addOne ⟨xs, next, ids⟩ p).next = (addOne ⟨xs, next, []⟩ p).next := by
  unfold addOne
  dsimp only
  split
  · exact ⟨rfl, rfl⟩
  · split <;> exact ⟨rfl, rfl⟩

/-- One of the paths: its line. -/
theorem adds_at (ps : List SRow) {k : Nat} {p : SRow} (hp : ps[k]? = some p) : ∃ id, (addAll ⟨[], 0, []⟩ ps).ids[k]? = some id ∧ findIdG (addAll ⟨[], 0, []⟩ ps).xs p.ss = id ∧
    (addOne ⟨(addAll ⟨[], 0, []⟩ (ps.take k)).xs, (addAll ⟨[], 0, []⟩ (ps.take k)).next, []⟩ p).ids = [id] := by
  have hlt := (List.getElem?_eq_some_iff.1 hp).1
  have hsp : ps = ps.take k ++ p :: ps.drop (k + 1) := by
    have := (List.getElem?_eq_some_iff.1 hp).2
    rw [← this, ← List.drop_eq_getElem_cons hlt, List.take_append_drop]
  obtain ⟨h1, -, t, h3, h4⟩ := addAll_inv (ps.take k) inv0
  have hG : addAll ⟨[], 0, []⟩ ps = addAll (addOne (addAll ⟨[], 0, []⟩ (ps.take k)) p) (ps.drop (k + 1)) := by
    conv => lhs; rw [hsp]
    unfold addAll
    rw [List.foldl_append]
    rfl
  rw [hG]
  generalize addAll ⟨[], 0, []⟩ (ps.take k) = s at *
  have h1' : GInv ⟨s.xs, s.next, []⟩ := ⟨h1.next, h1.at_⟩
  obtain ⟨g1, g2, j, y, g3, g4, g5⟩ := addOne_spec h1 p
  obtain ⟨g1', -, j', y', g3', g4', g5'⟩ := addOne_spec h1' p
  obtain ⟨f1, f2, u, f3, f4⟩ := addAll_inv (ps.drop (k + 1)) g1
  obtain ⟨z, z1, z2, z3⟩ := f2 j y g3
  have hids := addOne_ids s.xs s.next s.ids p
  have hyy : y'.id = y.id := by
    rw [← hids.1] at g3'
    have a1 := (g1.at_ j' y' g3').2.2
    have a2 := (g1.at_ j y g3).2.2
    rw [g4'] at a1
    rw [g4] at a2
    have : j' = j := by omega
    subst this
    rw [g3] at g3'
    rw [Option.some.inj g3']
  refine ⟨y.id, ?_, ?_, ?_⟩
  · rw [f3, g5, h3, List.nil_append]
    have hk : t.length = k := by rw [h4, List.length_take]; omega
    rw [List.getElem?_append_left (by simp; omega), List.getElem?_append_right (by omega), hk, Nat.sub_self]
    rfl
  · rw [← g4, ← z2, findId_of f1 z1, z3]
  · rw [g5', hyy]
    rfl

theorem snd_of {s : GSt} (h : GInv s) : ∀ (l : List GLine) (k : Nat), s.xs.drop k = l → sndFrom s.xs s.next l k ((k : Int) - 1) = true
  | [], _, _ => rfl
  | x :: l, k, hl => by
    have hx : s.xs[k]? = some x := by
      have : (s.xs.drop k)[0]? = some x := by rw [hl]; rfl
      simpa using this
    have hlt := (List.getElem?_eq_some_iff.1 hx).1
    obtain ⟨h1, h2, h3⟩ := h.at_ k x hx
    have hn := h.next
    rw [sndFrom, if_neg (by omega), if_neg (by omega), if_neg (by omega), if_pos h3, h1]
    have := snd_of h l (k + 1) (by rw [← List.drop_drop, hl]; rfl)
    rw [show (((k + 1 : Nat) : Int) - 1) = (k : Int) by omega] at this
    exact this
/-- A summary that paths are counted in is sound. -/
theorem sound_of {s : GSt} (h : GInv s) : soundGd s.xs s.next = true := snd_of h s.xs 0 rfl
theorem adds_len (ps : List SRow) : (addAll ⟨[], 0, []⟩ ps).ids.length = ps.length := by
  obtain ⟨-, -, t, h1, h2⟩ := addAll_inv ps inv0
  rw [h1, List.nil_append, h2]
end Go.Sy
namespace Go.Sy
open Go.Proofs

/-! ### GuideAdds -/

structure GaS where
  k : Nat
  ho : Option Addr
  hc : Nat
structure GaR where
  s : Snap
  ho : Option Addr
  hc : Nat
  io : Option Addr
  ic : Nat

set_option maxRecDepth 100000 in
set_option maxHeartbeats 1000000 in
theorem GuideAdds_c (σ : Snap) (ps : List SRow) (po : Option Addr) (pc : Nat) (P : SlAt σ po ps.length pc 1 (srRows ps)) (hps : ∀ p ∈ ps, SrOk σ p) (hlen : ps.length ≤ 140737488355328) :
    PlainS Tryd.prog 9 [.a (.v (.slice po ps.length pc))] σ (fun v => v = .bool true) := by
  refine enter_p Tryd.func9 rfl rfl (by (repeat' (first | exact trivial | constructor))) fun w => ?_
  (repeat (first | refine cj_seq ?_ | (refine cj_region ?_; refine oj_run TT rfl ?_) | refine oj_then ?_))
  refine oj_callP rfl rfl rfl rfl rfl Tryd.call46 (by (repeat' exact trivial)) (awake13_c σ) fun v hv => ⟨.a .tt, trivial, hv.symm, ?_⟩
  refine oj_run TT rfl ?_
  (repeat (first | refine cj_seq ?_ | (refine cj_region ?_; refine oj_run TT rfl ?_) | refine oj_then ?_))
  refine oj_callP rfl rfl rfl rfl rfl Tryd.call47 (by (repeat' (first | exact trivial | constructor))) (Few13_c σ ps hlen po pc P hps 40) fun v ⟨fb, hv, hfew⟩ => ⟨.a (.b fb), trivial, hv.symm, ?_⟩
  refine oj_run TT rfl ?_
  (repeat refine oj_then ?_)
  refine cj_if rfl (fun h => ?_) (fun h => ?_)
  · (repeat (first | refine cj_seq ?_ | (refine cj_region ?_; refine oj_run TT rfl ?_) | refine oj_then ?_ | refine cj_ret ?_ | refine nj_then_ret ?_))
    refine nj_ret TT rfl fun β w' _ _ => ?_
    rfl
  have hpl : ps.length ≤ 40 := by
    have := hfew (by simpa using h)
    omega
  (repeat (first | refine cj_seq ?_ | (refine cj_region ?_; refine oj_run TT rfl ?_) | refine cj_skip ?_ | refine nj_then ?_))
  have hfit0 : GFit 0 ⟨[], 0, []⟩ := ⟨Nat.le_refl _, Nat.le_refl _, by decide, fun _ h => (by cases h)⟩
  refine oj_callS rfl rfl rfl rfl rfl Tryd.call48 (by (repeat' (first | exact trivial | refine AllLt.of ?_ | constructor))) (Add_c σ [] 0 none 0 (SlAt.nil _ _ _ _) (fun _ h => (by cases h)) ps po pc P hps 0 hfit0 (by omega)) fun v σ1 hle1 ⟨go, gc, ido, idc, hv, HG, HD⟩ => ⟨.tup [.agg [.v (.slice go (addAll ⟨[], 0, []⟩ ps).xs.length gc), .v (.int .i64 (addAll ⟨[], 0, []⟩ ps).next)], .a (.v (.slice ido (addAll ⟨[], 0, []⟩ ps).ids.length idc))], (by (repeat' (first | exact trivial | refine AllLt.of ?_ | refine SV.lt_tup ?_ | constructor))), hv.symm, ?_⟩
  have hGok := addAll_ok (σ := σ1) ps (s := ⟨[], 0, []⟩) (fun _ h => (by cases h)) (fun p h => (hps p h).mono hle1)
  have hGfit := addAll_fit ps hfit0
  obtain ⟨hGinv, -⟩ := addAll_inv ps inv0
  have hGids := adds_len ps
  have hGat := @adds_at ps
  have hGn := hGfit.next
  have hGx := hGfit.xs
  refine oj_run TT rfl ?_
  (repeat (first | refine cj_seq ?_ | (refine cj_region ?_; refine oj_run TT rfl ?_) | refine oj_then ?_ | refine cj_block ?_))
  refine cj_cutB (fun (t : Snap × GaS) => t.1) (fun t => [(0, .a (.v (.slice po ps.length pc))), (3, .a .tt), (4, .a (.p 0 0)), (5, .a (.v (.slice ido (addAll ⟨[], 0, []⟩ ps).ids.length idc))), (6, .a (.p 1 0))])
    (fun t => [(0, .loc 71, [.v (.slice go (addAll ⟨[], 0, []⟩ ps).xs.length gc), .v (.int .i64 (addAll ⟨[], 0, []⟩ ps).next)]), (1, .loc 71, [.v (.slice t.2.ho (addAll ⟨[], 0, []⟩ ps).xs.length t.2.hc), .v (.int .i64 (addAll ⟨[], 0, []⟩ ps).next)])]) (fun _ => []) 2
    (fun t => σ1.le t.1 ∧ SlAt t.1 t.2.ho (addAll ⟨[], 0, []⟩ ps).xs.length t.2.hc 3 (lnRows (addAll ⟨[], 0, []⟩ ps).xs)) ?_ (fun t ht => ?_)
  rotate_left
  · obtain ⟨s, k, ho, hc⟩ := t
    obtain ⟨hle, HH⟩ := ht
    dsimp only at hle HH ⊢
    have HG := HG.mono hle
    have hGok := fun x h => (hGok x h).mono hle
    clear hGat
    generalize addAll ⟨[], 0, []⟩ ps = G at *
    have hnx := hGinv.next
    rw [hGids]
    (repeat refine cj_seq ?_)
    refine cj_draw [(0,.pure),(1,.pure),(2,.pure),(3,.pure),(4,.pure),(5,.pure),(6,.pure),(7,.pure),(8,.pure),(9,.quiet),(11,.quiet),(10,.keep),(12,.keep),(13,.keep),(14,.pure),(15,.pure),(16,.quiet),(17,.keep),(18,.pure),(19,.pure),(20,.pure),(21,.quiet),(22,.pure),(23,.quiet),(24,.pure),(25,.pure),(26,.pure),(27,.pure)] mixed (by kernel_rfl) (oj_run TT rfl ?_)
    refine oj_split 79 rfl (fun _ => ?_) (fun h => absurd (show decide ((ps.length : Int) = ps.length) = false from h) (by simp))
    refine oj_run TT rfl ?_
    refine oj_callS rfl rfl rfl rfl rfl Tryd.call51 (by (repeat' (first | exact trivial | refine AllLt.of ?_ | constructor))) (theirsGd_c s G.xs (by omega) go gc G.next HG) fun v σ2 hle2 ⟨bo, bc, hv, HB⟩ => ⟨.agg [.v (.slice bo G.xs.length bc), .v (.int .i64 G.next)], (by (repeat' (first | exact trivial | refine AllLt.of ?_ | constructor))), hv.symm, ?_⟩
    have HH := HH.mono hle2
    have HG := HG.mono hle2
    have hGok := fun x h => (hGok x h).mono hle2
    refine oj_run TT rfl ?_
    refine oj_callS rfl rfl rfl rfl rfl Tryd.call51 (by (repeat' (first | exact trivial | refine AllLt.of ?_ | constructor))) (theirsGd_c σ2 G.xs (by omega) ho hc G.next HH) fun v σ3 hle3 ⟨co, cc, hv, HC⟩ => ⟨.agg [.v (.slice co G.xs.length cc), .v (.int .i64 G.next)], (by (repeat' (first | exact trivial | refine AllLt.of ?_ | constructor))), hv.symm, ?_⟩
    have HB := HB.mono hle3
    have HG := HG.mono hle3
    have hGok := fun x h => (hGok x h).mono hle3
    refine oj_run TT rfl ?_
    refine oj_callP rfl rfl rfl rfl rfl Tryd.call50 (by (repeat' (first | exact trivial | refine AllLt.of ?_ | constructor))) (SameGd_c σ3 G.xs G.xs (by omega) bo co bc cc G.next G.next HB HC hGok hGok) fun v hv => ⟨.a .tt, trivial, (by rw [hv, sameLn_refl, decide_eq_true rfl]; rfl), ?_⟩
    refine oj_run TT rfl ?_
    refine oj_callP rfl rfl rfl rfl rfl Tryd.call52 (by (repeat' (first | exact trivial | refine AllLt.of ?_ | constructor))) (SoundGd_c σ3 G.xs (by omega) go gc G.next HG hGok) fun v hv => ⟨.a .tt, trivial, (by rw [hv, sound_of hGinv]; rfl), ?_⟩
    refine oj_run TT rfl ?_
    (repeat (first | refine oj_then ?_ | refine cj_ret ?_))
    refine nj_ret TT rfl fun β w' _ _ => ?_
    exact congrArg Value.bool (decide_eq_true hnx)
  refine cj_loop2 (fun (s : Snap) (_ : GaS) => s) (fun _ t => [(0, .a (.v (.slice po ps.length pc))), (3, .a .tt), (4, .a (.p 0 0)), (5, .a (.v (.slice ido (addAll ⟨[], 0, []⟩ ps).ids.length idc))), (6, .a (.p 1 0)), (7, .a (.v (.int .i64 (t.k : Nat))))])
    (fun _ t => [(0, .loc 71, [.v (.slice go (addAll ⟨[], 0, []⟩ ps).xs.length gc), .v (.int .i64 (addAll ⟨[], 0, []⟩ ps).next)]), (1, .loc 71, [.v (.slice t.ho (addAll ⟨[], 0, []⟩ (ps.take t.k)).xs.length t.hc), .v (.int .i64 (addAll ⟨[], 0, []⟩ (ps.take t.k)).next)])]) (fun _ _ => []) 2
    (fun s t => σ1.le s ∧ t.k ≤ ps.length ∧ SlAt s t.ho (addAll ⟨[], 0, []⟩ (ps.take t.k)).xs.length t.hc 3 (lnRows (addAll ⟨[], 0, []⟩ (ps.take t.k)).xs)) (fun _ t => ps.length - t.k) σ1 ⟨0, none, 0⟩ ⟨Snap.le_refl _, Nat.zero_le _, SlAt.nil _ _ _ _⟩ rfl (by (repeat (first | exact trivial | refine And.intro rfl ?_))) (by (repeat (first | exact trivial | refine And.intro rfl ?_))) rfl (by (repeat' (first | exact trivial | exact Nat.le_of_ble_eq_true rfl | constructor))) (by (repeat' (first | exact trivial | exact Nat.le_of_ble_eq_true rfl | refine AllLt.of ?_ | constructor))) fun s ⟨k, ho, hc⟩ ⟨hle, hk, HH⟩ => ?_
  dsimp only at hk HH ⊢
  (repeat (first | refine cj_seq ?_ | (refine cj_region ?_; refine oj_run TT rfl ?_) | refine oj_then ?_))
  refine cj_if rfl (fun h => ?_) (fun h => ?_)
  rotate_left
  · have hk0 : k = ps.length := by have := of_decide_eq_false h; omega
    subst hk0
    rw [List.take_length] at HH ⊢
    (repeat (first | refine cj_exit ?_ | refine nj_then_exit ?_ | refine nj_block_out ?_))
    refine nj_again (s, (⟨ps.length, ho, hc⟩ : GaS)) ⟨hle, HH⟩ Nat.zero_lt_one rfl (by (repeat (first | exact trivial | refine And.intro rfl ?_))) (by (repeat (first | exact trivial | refine And.intro rfl ?_))) rfl (by (repeat' (first | exact trivial | exact Nat.le_of_ble_eq_true rfl | constructor))) (by (repeat' (first | exact trivial | exact Nat.le_of_ble_eq_true rfl | refine AllLt.of ?_ | constructor)))
  have hkl : k < ps.length := by have := of_decide_eq_true h; omega
  have hpk : ps[k]? = some ps[k] := List.getElem?_eq_getElem hkl
  have hrow := srRows_get hpk
  obtain ⟨id, hid, hfind, hone⟩ := hGat hpk
  have hpo := (hps ps[k] (List.getElem_mem hkl)).mono (Snap.le_trans hle1 hle)
  have hnext : addAll ⟨[], 0, []⟩ (ps.take (k + 1)) = addOne (addAll ⟨[], 0, []⟩ (ps.take k)) ps[k] := by
    rw [List.take_succ_eq_append_getElem hkl]
    unfold addAll
    rw [List.foldl_append]
    rfl
  have hHok := addAll_ok (σ := s) (ps.take k) (s := ⟨[], 0, []⟩) (fun _ h => (by cases h)) (fun p h => (hps p (List.mem_of_mem_take h)).mono (Snap.le_trans hle1 hle))
  have hHfit := (addAll_fit (ps.take k) hfit0).mono (n := 40) (by rw [List.length_take]; omega)
  have P' := P.mono (Snap.le_trans hle1 hle)
  have hone' : (ps.take (k + 1)).drop k = [ps[k]] := by
    rw [List.take_succ_eq_append_getElem hkl, List.drop_append_of_le_length (by rw [List.length_take]; omega), List.drop_eq_nil_of_le (by rw [List.length_take]; omega)]
    rfl
  have P1 := P'.sub (l := k) (k := k + 1) (Nat.le_succ k) hkl
  have e1 : ((srRows ps).take (k + 1)).drop k = srRows [ps[k]] := by
    unfold srRows
    rw [← List.map_take, ← List.map_drop, hone']
  rw [e1, show k + 1 - k = 1 by omega] at P1
  have HG := HG.mono hle
  have HD := HD.mono hle
  have hGok := fun x h => (hGok x h).mono hle
  have hrest : ∀ s' : Snap, s.le s' → σ1.le s' := fun s' h => Snap.le_trans hle h
  generalize ps[k] = p at *
  generalize hHk : addAll ⟨[], 0, []⟩ (ps.take k) = K at *
  have hids := addOne_ids K.xs K.next K.ids p
  have hfitK : GFit 40 ⟨K.xs, K.next, []⟩ := ⟨hHfit.xs, Nat.zero_le _, hHfit.next, hHfit.cnt⟩
  have hall : addAll ⟨K.xs, K.next, []⟩ [p] = addOne ⟨K.xs, K.next, []⟩ p := rfl
  have hol : (addOne ⟨K.xs, K.next, []⟩ p).ids.length = 1 := by rw [hone]; rfl
  have hx1 : (addOne K p).xs = (addOne ⟨K.xs, K.next, []⟩ p).xs := hids.1
  have hn1 : (addOne K p).next = (addOne ⟨K.xs, K.next, []⟩ p).next := hids.2
  have hadd := fun (qo : Option Addr) (qc : Nat) (hP : SlAt s qo 1 qc 1 (srRows [p])) => Add_c s K.xs K.next ho hc HH hHok [p] qo qc hP (fun q hq => by rw [List.mem_singleton.1 hq]; exact hpo) 40 hfitK (by show 40 + 1 ≤ 1000000; omega)
  rw [hall, hol, hone] at hadd
  clear hids hall hol hone hfitK HH hHok hHfit hGat
  generalize addOne ⟨K.xs, K.next, []⟩ p = r at *
  (repeat (first | refine cj_seq ?_ | refine cj_skip ?_ | refine cj_block ?_ | refine nj_then ?_))
  refine cj_cutN (fun (t : GaR) => t.s) (fun t => [(0, .a (.v (.slice po ps.length pc))), (3, .a .tt), (4, .a (.p 0 0)), (5, .a (.v (.slice ido (addAll ⟨[], 0, []⟩ ps).ids.length idc))), (6, .a (.p 1 0)), (7, .a (.v (.int .i64 (k : Nat)))), (8, .a (.p 2 0)), (9, .a (.v (.slice t.io 1 t.ic)))])
    (fun t => [(0, .loc 71, [.v (.slice go (addAll ⟨[], 0, []⟩ ps).xs.length gc), .v (.int .i64 (addAll ⟨[], 0, []⟩ ps).next)]), (1, .loc 71, [.v (.slice ho K.xs.length hc), .v (.int .i64 K.next)]), (2, .loc 71, [.v (.slice t.ho r.xs.length t.hc), .v (.int .i64 r.next)])]) (fun _ => []) 3
    (fun t => s.le t.s ∧ SlAt t.s t.ho r.xs.length t.hc 3 (lnRows r.xs) ∧ SlAt t.s t.io 1 t.ic 1 (idRows [id])) ?_ (fun t ht => ?_)
  · refine cj_drawG 13 [1, 2, 3, 4, 5, 7, 8, 9, 12] mixed (by kernel_rfl) rfl ?_
    refine gj_val (i := 1) TT rfl (by kernel_rfl) (by kernel_rfl) rfl rfl rfl rfl rfl ?_
    refine gj_val (i := 2) TT rfl (by kernel_rfl) (by kernel_rfl) rfl rfl rfl rfl rfl ?_
    refine gj_val (i := 3) TT rfl (by kernel_rfl) (by kernel_rfl) rfl rfl rfl rfl rfl ?_
    refine gj_add (i := 4) rfl rfl (by kernel_rfl) (by kernel_rfl) rfl rfl rfl rfl rfl rfl (by omega) ?_
    refine gj_slice (i := 5) TT k (k + 1) rfl rfl (by kernel_rfl) (by kernel_rfl) rfl rfl rfl rfl rfl rfl rfl rfl rfl rfl (.inr ⟨_, _, rfl, rfl⟩) (.inr ⟨_, _, rfl, rfl⟩) (Nat.le_succ k) (Nat.le_trans hkl P'.ncap) P'.ncap ?_
    rw [show k + 1 - k = 1 by omega]
    refine gj_val (i := 0) TT rfl (by kernel_rfl) (by kernel_rfl) rfl rfl rfl rfl rfl ?_
    refine gj_two (i := 6) (j := 10) (by kernel_rfl) ?_ ?_
    · refine gk_call rfl rfl rfl rfl rfl Tryd.call48 (by (repeat' (first | exact trivial | refine AllLt.of ?_ | constructor))) (hadd _ _ P1) fun v σ2 hle2 ⟨bo, bc, io, ic, hv, HB, HI⟩ => ⟨.tup [.agg [.v (.slice bo r.xs.length bc), .v (.int .i64 r.next)], .a (.v (.slice io 1 ic))], (by (repeat' (first | exact trivial | refine AllLt.of ?_ | refine SV.lt_tup ?_ | constructor))), hv.symm, ?_⟩
      refine gj_order [(7,.pure),(8,.pure),(9,.pure),(10,.keep),(11,.sink),(12,.pure)] rfl rfl (by kernel_rfl) ?_
      refine oj_run TT rfl ?_
      (repeat refine oj_nil ?_)
      refine nj_again (⟨σ2, bo, bc, io, ic⟩ : GaR) ⟨hle2, HB, HI⟩ Nat.zero_lt_one rfl (by (repeat (first | exact trivial | refine And.intro rfl ?_))) (by (repeat (first | exact trivial | refine And.intro rfl ?_))) rfl (by (repeat' (first | exact trivial | exact Nat.le_of_ble_eq_true rfl | constructor))) (by (repeat' (first | exact trivial | exact Nat.le_of_ble_eq_true rfl | refine AllLt.of ?_ | constructor)))
    · refine gk_new TT rfl rfl rfl rfl rfl ?_
      refine gj_order [(6,.keep),(7,.pure),(8,.pure),(9,.pure),(11,.sink),(12,.pure)] rfl rfl (by kernel_rfl) ?_
      refine oj_callS rfl rfl rfl rfl rfl Tryd.call48 (by (repeat' (first | exact trivial | refine AllLt.of ?_ | constructor))) (hadd _ _ P1) fun v σ2 hle2 ⟨bo, bc, io, ic, hv, HB, HI⟩ => ⟨.tup [.agg [.v (.slice bo r.xs.length bc), .v (.int .i64 r.next)], .a (.v (.slice io 1 ic))], (by (repeat' (first | exact trivial | refine AllLt.of ?_ | refine SV.lt_tup ?_ | constructor))), hv.symm, ?_⟩
      refine oj_run TT rfl ?_
      (repeat refine oj_nil ?_)
      refine nj_again (⟨σ2, bo, bc, io, ic⟩ : GaR) ⟨hle2, HB, HI⟩ Nat.zero_lt_one rfl (by (repeat (first | exact trivial | refine And.intro rfl ?_))) (by (repeat (first | exact trivial | refine And.intro rfl ?_))) rfl (by (repeat' (first | exact trivial | exact Nat.le_of_ble_eq_true rfl | constructor))) (by (repeat' (first | exact trivial | exact Nat.le_of_ble_eq_true rfl | refine AllLt.of ?_ | constructor)))
  obtain ⟨σ2, bo, bc, io, ic⟩ := t
  obtain ⟨hle2, HB, HI⟩ := ht
  dsimp only at hle2 HB HI ⊢
  have P2 := P'.mono hle2
  have HD := HD.mono hle2
  have HG := HG.mono hle2
  have hGok := fun x h => (hGok x h).mono hle2
  have hpo := hpo.mono hle2
  have hrest := hrest σ2 hle2
  generalize addAll ⟨[], 0, []⟩ ps = G at *
  (repeat (first | refine cj_seq ?_ | (refine cj_region ?_; refine oj_run TT rfl ?_) | refine oj_then ?_))
  refine cj_draw [(0,.pure),(1,.pure),(2,.pure),(3,.pure),(4,.pure),(5,.pure),(6,.pure),(7,.pure),(8,.pure),(9,.pure),(10,.pure),(11,.pure),(12,.quiet),(13,.pure),(14,.pure),(15,.pure),(16,.quiet),(17,.pure),(18,.pure),(19,.pure),(20,.quiet),(21,.pure),(22,.pure),(23,.pure),(24,.quiet),(26,.pure),(27,.pure),(28,.pure),(29,.quiet),(25,.keep),(30,.pure),(31,.pure)] mixed (by kernel_rfl) (oj_run TT rfl ?_)
  refine oj_split 42 rfl (fun h => absurd (show (!decide ((1 : Int) = 1)) = true from h) (by decide)) (fun _ => ?_)
  refine oj_run TT rfl ?_
  refine oj_split 48 rfl (fun h => ?_) (fun _ => ?_)
  · have := of_decide_eq_true (show decide ((k : Int) ≥ G.ids.length) = true from h)
    omega
  refine oj_run TT rfl ?_
  refine oj_idx TT rfl rfl rfl rfl rfl rfl rfl rfl rfl HI (by omega) (show (idRows [id])[(0 : Int).toNat]? = some [.v (.int .i64 id)] from rfl) (oj_run TT rfl ?_)
  refine oj_idx TT rfl rfl rfl rfl rfl rfl rfl rfl rfl HD (by omega) (idRows_get hid) (oj_run TT rfl ?_)
  refine oj_split 58 rfl (fun h => absurd (show (!decide (id = id)) = true from h) (by simp)) (fun _ => ?_)
  refine oj_run TT rfl ?_
  refine oj_idx TT rfl rfl rfl rfl rfl rfl rfl rfl rfl P2 (by omega) hrow (oj_run TT rfl ?_)
  refine oj_idx TT rfl rfl rfl rfl rfl rfl rfl rfl rfl HD (by omega) (idRows_get hid) (oj_run TT rfl ?_)
  refine oj_callP rfl rfl rfl rfl rfl Tryd.call49 (by (repeat' (first | exact trivial | refine AllLt.of ?_ | constructor))) (FindGd_c σ2 G.xs (by omega) go gc G.next HG hGok p.ss p.ao p.cap hpo.2) fun v hv => ⟨.a (.v (.int .i64 id)), trivial, (by rw [hv, hfind]; rfl), ?_⟩
  refine oj_run TT rfl ?_
  (repeat refine oj_then ?_)
  refine cj_if rfl (fun h => absurd (show (!decide (id = id)) = true from h) (by simp)) (fun _ => ?_)
  (repeat (first | (refine cj_region ?_; refine oj_run TT rfl ?_) | refine oj_nil ?_ | refine cj_skip ?_ | refine nj_then ?_ | refine nj_block ?_ | (refine oj_add rfl rfl rfl rfl rfl rfl (by omega) ?_; refine oj_run TT rfl ?_)))
  refine nj_again (σ2, (⟨k + 1, bo, bc⟩ : GaS)) ⟨hrest, hkl, by dsimp only; rw [hnext, hx1]; exact HB⟩ (by dsimp only; omega) rfl (by (repeat (first | exact trivial | refine And.intro rfl ?_))) ?_ rfl (by (repeat' (first | exact trivial | exact Nat.le_of_ble_eq_true rfl | constructor))) (by (repeat' (first | exact trivial | exact Nat.le_of_ble_eq_true rfl | refine AllLt.of ?_ | constructor)))
  dsimp only
  rw [hnext, hx1, hn1]
  (repeat (first | exact trivial | refine And.intro rfl ?_))
end Go.Sy
/- From a row's data to what the walks ask: a value that is read in the world is a tree that lies in memory, all of it sealed. -/
namespace Go.Sy
open Go.ChangeShapes Go.RowKit

def snapOf (W : World) : Snap := fun b => W.heap[b]?
theorem snapOf_sealed (W : World) : Sealed (snapOf W) W := fun _ _ h => h
theorem snapOf_cell (W : World) (a : Addr) : (snapOf W).cell a = W.cell? a := rfl

/-- The types of a value: itself, its list, its members, a member, its number, text, number, truth. -/
structure VT (P : Program) (tV tL tM tE tD tS tI tB : TypeId) : Prop where
  v : ∃ fs : Array Field, P.underlying tV = some (.struct fs) ∧ fs.toList.map (fun f => (f.type, f.offset)) = [(tI, 0), (tB, 1), (tD, 2), (tS, 5), (tL, 6), (tM, 7)]
  l : P.underlying tL = some (.slice tV)
  m : P.underlying tM = some (.slice tE)
  e : ∃ fs : Array Field, P.underlying tE = some (.struct fs) ∧ fs.toList.map (fun f => (f.type, f.offset)) = [(tS, 0), (tV, 1)]
  d : ∃ fs : Array Field, P.underlying tD = some (.struct fs) ∧ fs.toList.map (fun f => (f.type, f.offset)) = [(tB, 0), (tS, 1), (tI, 2)]
  s : P.underlying tS = some .string
  i : P.underlying tI = some (.int .i64)
  b : P.underlying tB = some .bool
  cV : P.cellsOf tV = 8
  cE : P.cellsOf tE = 9
  cD : P.cellsOf tD = 3
  cS : P.cellsOf tS = 1
  cI : P.cellsOf tI = 1
  cB : P.cellsOf tB = 1
  cL : P.cellsOf tL = 1
  cM : P.cellsOf tM = 1
  bV : 0 < P.bytesOf tV
  bE : 0 < P.bytesOf tE

section
variable {H : Type} {enc : TypeId × Value → H} {P : Program} {w : World} {sp : Nat → Bool} {held : Bool}

theorem field_at {fs : Array Field} {l : List (TypeId × Nat)} (h : fs.toList.map (fun f => (f.type, f.offset)) = l) {i : Nat} {t : TypeId} {o : Nat} (hi : l[i]? = some (t, o)) :
    ∃ f, fs[i]? = some f ∧ f.type = t ∧ f.offset = o := by
  subst h
  rw [List.getElem?_map] at hi
  simp only [Option.map_eq_some_iff, Prod.mk.injEq] at hi
  obtain ⟨f, h1, h2, h3⟩ := hi
  exact ⟨f, by simpa using h1, h2, h3⟩

theorem open_struct {t : TypeId} {fs : Array Field} {l : List (TypeId × Nat)} {n : Nat} {cs : List Value} {x : DataW H × List MemPlace} (hu : P.underlying t = some (.struct fs)) (hl : fs.toList.map (fun f => (f.type, f.offset)) = l)
    (h : DataW.trod enc P w 0 sp held n t cs = some x) :
    ∃ m, m < n ∧ cs.length = P.cellsOf t ∧ ∀ (i : Nat) (u : TypeId) (o : Nat), l[i]? = some (u, o) → ∃ y : DataW H × List MemPlace, DataW.trod enc P w 0 sp held m u ((cs.drop o).take (P.cellsOf u)) = some y ∧ ∀ k ∈ y.1.weights P u, k ∈ x.1.weights P t := by
  obtain ⟨xs, m, rfl, rfl, h1, h2, h3⟩ := DataW.trod_struct hu h
  refine ⟨m, by omega, h1, fun i u o hi => ?_⟩
  obtain ⟨f, hf, rfl, rfl⟩ := field_at hl hi
  have hi' : i < xs.length := by
    rw [h2]
    have := (List.getElem?_eq_some_iff.1 (show fs.toList[i]? = some f by simpa using hf)).1
    simpa using this
  refine ⟨xs[i], by rw [h3 i f hf, List.getElem?_eq_getElem hi'], fun k hk => ?_⟩
  rw [DataW.weights.eq_def]
  simp only [hu]
  exact DataW.weights_mem_each (j := i) (t := f.type) (d := xs[i].1) (by simp; exact ⟨f, by simpa using hf, rfl⟩) (by simp [List.getElem?_eq_getElem hi']) k hk

theorem weightsAll_mem {e : TypeId} : ∀ {ds : List (DataW H)} {d : DataW H}, d ∈ ds → ∀ k ∈ d.weights P e, k ∈ DataW.weightsAll P e ds
  | _ :: _, _, .head _, k, hk => by rw [DataW.weightsAll]; exact List.mem_append_left _ hk
  | _ :: _, _, .tail _ h, k, hk => by rw [DataW.weightsAll]; exact List.mem_append_right _ (weightsAll_mem h k hk)

theorem open_sl {t e : TypeId} {n sz : Nat} {c : Value} {x : DataW H × List MemPlace} (hu : P.underlying t = some (.slice e)) (hc : P.cellsOf e = sz) (hb : 0 < P.bytesOf e) (h : DataW.trod enc P w 0 sp held n t [c] = some x)
    (hw : ∀ k ∈ x.1.weights P t, k ≤ reachBytes) :
    ∃ (ao : Option Addr) (len cap m : Nat), c = .slice ao len cap ∧ m < n ∧ len ≤ cap ∧ len ≤ reachBytes ∧
      (len = 0 ∨ ∃ a, ao = some a ∧ ∀ i, i < len → ∃ (cs : List Value) (y : DataW H × List MemPlace), cs.length = sz ∧ (∀ j v, cs[j]? = some v → w.cell? (a.add (i * sz + j)) = some v) ∧
        DataW.trod enc P w 0 sp held m e cs = some y ∧ ∀ k ∈ y.1.weights P e, k ∈ x.1.weights P t) := by
  rcases DataW.trod_slice hu h with ⟨h1, rfl⟩ | ⟨a, len, cap, elems, rest, m, rfl, h1, rfl, _, h3, h4, h5, h6, _, _⟩
  · injection h1 with h1
    subst h1
    refine ⟨none, 0, 0, 0, rfl, ?_, Nat.le_refl _, by decide, .inl rfl⟩
    cases n with
    | zero => simp [DataW.trod] at h
    | succ n => omega
  · injection h1 with h1
    subst h1
    have hwt : (DataW.slice (elems.map (·.1)) (rest.map (·.1)) : DataW H).weights P t = ((elems.map (·.1)).length + (rest.map (·.1)).length) * P.bytesOf e :: (DataW.weightsAll P e (elems.map (·.1)) ++ DataW.weightsAll P e (rest.map (·.1))) := by
      rw [DataW.weights.eq_def]
      simp only [hu]
    refine ⟨some a, len, cap, m, rfl, by omega, h3, ?_, .inr ⟨a, rfl, fun i hi => ?_⟩⟩
    · have := hw _ (by rw [hwt]; exact List.mem_cons_self)
      simp only [List.length_map] at this
      have h7 : elems.length ≤ (elems.length + rest.length) * P.bytesOf e := Nat.le_trans (Nat.le_add_right _ _) (Nat.le_mul_of_pos_right _ hb)
      omega
    · have hi' : i < elems.length := by omega
      have h8 := h6 i hi
      rw [List.getElem?_eq_getElem hi', hc] at h8
      obtain ⟨cs, h9, h10⟩ := Option.bind_eq_some_iff.1 h8
      obtain ⟨_, h11, h12⟩ := World.cells?_some h9
      refine ⟨cs, elems[i], h11, fun j v hj => ?_, h10, fun k hk => ?_⟩
      · have hj' : j < sz := by rw [← h11]; exact (List.getElem?_eq_some_iff.1 hj).1
        have := h12 j hj'
        rw [hj] at this
        rw [← this]
        congr 1
        exact (Addr.add_add _ _ _).symm
      · rw [hwt]
        exact List.mem_cons_of_mem _ (List.mem_append_left _ (weightsAll_mem (List.mem_map.2 ⟨elems[i], List.getElem_mem hi', rfl⟩) k hk))

theorem RepL.range {σ : Snap} {G : Nat → GVal} {R : Nat → List AT} : ∀ l : List Nat, (∀ i ∈ l, RepV σ (G i) (R i)) → RepL σ (l.map G) (l.map R)
  | [], _ => by simp [RepL]
  | a :: l, h => by
    simp only [List.map_cons, RepL]
    exact ⟨R a, l.map R, rfl, h a List.mem_cons_self, RepL.range l fun i hi => h i (List.mem_cons_of_mem _ hi)⟩

theorem keyRows_range (K : Nat → ByteArray) (R : Nat → List AT) : ∀ l : List Nat, keyRows (l.map K) (l.map R) = l.map fun i => keyRow (K i) (R i)
  | [] => rfl
  | a :: l => by simp [keyRows, keyRows_range K R l]

/-- What each of its elements is, read off the memory. -/
theorem slAt_range {ao : Option Addr} {len cap sz : Nat} {R : Nat → List AT} (h1 : len ≤ cap) (h2 : ∀ i, i < len → (R i).length = sz ∧ ∀ c ∈ R i, c.lt 0)
    (h3 : len = 0 ∨ ∃ a, ao = some a ∧ ∀ i, i < len → ∀ j v, ((R i).map (AT.den β0))[j]? = some v → w.cell? (a.add (i * sz + j)) = some v) : SlAt (snapOf w) ao len cap sz ((List.range len).map R) := by
  refine ⟨by simp, h1, fun r hr => ?_, ?_⟩
  · obtain ⟨i, hi, rfl⟩ := List.mem_map.1 hr
    exact h2 i (List.mem_range.1 hi)
  · rcases h3 with h3 | ⟨a, h3, h4⟩
    · exact .inl h3
    · refine .inr ⟨a, h3, fun i r j c hr hc => ?_⟩
      rw [List.getElem?_map] at hr
      obtain ⟨i', h5, rfl⟩ := Option.map_eq_some_iff.1 hr
      obtain ⟨h6, h7⟩ := List.getElem?_eq_some_iff.1 h5
      have h8 : i < len := by simpa using h6
      have h9 : i' = i := by simpa using h7.symm
      subst h9
      rw [snapOf_cell]
      exact h4 i' h8 j _ (by rw [List.getElem?_map, hc]; rfl)

variable {tV tL tM tE tD tS tI tB : TypeId}

theorem open_str {n : Nat} {t : TypeId} {c : Value} {x : DataW H × List MemPlace} (hu : P.underlying t = some .string) (h : DataW.trod enc P w 0 sp held n t [c] = some x) (hw : ∀ k ∈ x.1.weights P t, k ≤ reachBytes) :
    ∃ s : ByteArray, c = .string s ∧ s.size ≤ mostLen := by
  obtain ⟨s, h1, rfl, _⟩ := DataW.trod_string hu h
  injection h1 with h1
  subst h1
  refine ⟨s, rfl, ?_⟩
  have := hw s.data.toList.length (by rw [DataW.weights.eq_def]; exact List.mem_cons_self)
  have h2 : s.data.toList.length = s.size := rfl
  rw [h2] at this
  exact this

/-- A VALUE THAT IS READ is a tree, and lies there. -/
theorem open_val (T : VT P tV tL tM tE tD tS tI tB) : ∀ (n : Nat) (cs : List Value) (x : DataW H × List MemPlace), DataW.trod enc P w 0 sp held n tV cs = some x → (∀ k ∈ x.1.weights P tV, k ≤ reachBytes) →
    ∃ (g : GVal) (r : List AT), cs = r.map (AT.den β0) ∧ RepV (snapOf w) g r := by
  intro n
  induction n using Nat.strongRecOn with
  | _ n ih => ?_
  intro cs x h hw
  obtain ⟨fs, hu, hl⟩ := T.v
  obtain ⟨m, hm, hlen, hf⟩ := open_struct hu hl h
  rw [T.cV] at hlen
  match cs, hlen with
  | [c0, c1, c2, c3, c4, c5, c6, c7], _ =>
  obtain ⟨y0, h0, _⟩ := hf 0 tI 0 rfl
  obtain ⟨y1, h1, _⟩ := hf 1 tB 1 rfl
  obtain ⟨y2, h2, w2⟩ := hf 2 tD 2 rfl
  obtain ⟨y3, h3, w3⟩ := hf 3 tS 5 rfl
  obtain ⟨y4, h4, w4⟩ := hf 4 tL 6 rfl
  obtain ⟨y5, h5, w5⟩ := hf 5 tM 7 rfl
  rw [T.cI] at h0
  rw [T.cB] at h1
  rw [T.cD] at h2
  rw [T.cS] at h3
  rw [T.cL] at h4
  rw [T.cM] at h5
  simp only [List.drop_zero, List.drop_succ_cons, List.take_succ_cons, List.take_zero] at h0 h1 h2 h3 h4 h5
  obtain ⟨k, e0, -, -⟩ := DataW.trod_int T.i h0
  obtain ⟨b, e1, -⟩ := DataW.trod_bool T.b h1
  obtain ⟨s, e5, hs⟩ := open_str T.s h3 fun k hk => hw k (w3 k hk)
  obtain ⟨fd, hud, hld⟩ := T.d
  obtain ⟨md, hmd, -, hfd⟩ := open_struct hud hld h2
  obtain ⟨z0, g0, _⟩ := hfd 0 tB 0 rfl
  obtain ⟨z1, g1, v1⟩ := hfd 1 tS 1 rfl
  obtain ⟨z2, g2, _⟩ := hfd 2 tI 2 rfl
  rw [T.cB] at g0
  rw [T.cS] at g1
  rw [T.cI] at g2
  simp only [List.drop_zero, List.drop_succ_cons, List.take_succ_cons, List.take_zero] at g0 g1 g2
  obtain ⟨ng, e2, -⟩ := DataW.trod_bool T.b g0
  obtain ⟨dg, e3, hdg⟩ := open_str T.s g1 fun k hk => hw k (w2 k (v1 k hk))
  obtain ⟨ex, e4, -, -⟩ := DataW.trod_int T.i g2
  injection e0 with e0
  injection e1 with e1
  injection e2 with e2
  injection e4 with e4
  subst e0 e1 e2 e3 e4 e5
  obtain ⟨la, ll, lc, ml, rfl, hml, hll, hlr, hle⟩ := open_sl T.l T.cV T.bV h4 fun k hk => hw k (w4 k hk)
  obtain ⟨ma, lm, mc, mm, rfl, hmm, hlm, hmr, hme⟩ := open_sl T.m T.cE T.bE h5 fun k hk => hw k (w5 k hk)
  have HL : ∀ i, ∃ gr : GVal × List AT, i < ll → RepV (snapOf w) gr.1 gr.2 ∧ ∀ a, la = some a → ∀ j v, (gr.2.map (AT.den β0))[j]? = some v → w.cell? (a.add (i * 8 + j)) = some v := by
    intro i
    by_cases hi : i < ll
    · rcases hle with h0 | ⟨a, rfl, hle⟩
      · omega
      · obtain ⟨cs, y, _, q2, q3, q4⟩ := hle i hi
        obtain ⟨g, r, rfl, hr⟩ := ih ml (by omega) cs y q3 fun k hk => hw k (w4 k (q4 k hk))
        exact ⟨(g, r), fun _ => ⟨hr, fun a' ha => by injection ha with ha; subst ha; exact q2⟩⟩
    · exact ⟨(.mk 0 false ⟨false, ⟨#[]⟩, 0⟩ ⟨#[]⟩ [] [] [], []), fun h => absurd h hi⟩
  have HM : ∀ i, ∃ gr : ByteArray × GVal × List AT, i < lm → gr.1.size ≤ mostLen ∧ RepV (snapOf w) gr.2.1 gr.2.2 ∧ ∀ a, ma = some a → ∀ j v, ((keyRow gr.1 gr.2.2).map (AT.den β0))[j]? = some v → w.cell? (a.add (i * 9 + j)) = some v := by
    intro i
    by_cases hi : i < lm
    · rcases hme with h0 | ⟨a, rfl, hme⟩
      · omega
      · obtain ⟨cs, y, q1, q2, q3, q4⟩ := hme i hi
        obtain ⟨fe, hue, hle'⟩ := T.e
        obtain ⟨me, hme', -, hfe⟩ := open_struct hue hle' q3
        obtain ⟨u0, p0, x0⟩ := hfe 0 tS 0 rfl
        obtain ⟨u1, p1, x1⟩ := hfe 1 tV 1 rfl
        rw [T.cS] at p0
        rw [T.cV] at p1
        match cs, q1 with
        | c :: cs', q1 =>
          simp only [List.drop_zero, List.drop_succ_cons, List.take_succ_cons, List.take_zero] at p0 p1
          rw [List.take_of_length_le (by simp at q1; omega)] at p1
          obtain ⟨key, rfl, hk⟩ := open_str T.s p0 fun k hk => hw k (w5 k (q4 k (x0 k hk)))
          obtain ⟨g, r, rfl, hr⟩ := ih me (by omega) cs' u1 p1 fun k hk => hw k (w5 k (q4 k (x1 k hk)))
          exact ⟨(key, g, r), fun _ => ⟨hk, hr, fun a' ha => by injection ha with ha; subst ha; exact q2⟩⟩
    · exact ⟨(⟨#[]⟩, .mk 0 false ⟨false, ⟨#[]⟩, 0⟩ ⟨#[]⟩ [] [] [], []), fun h => absurd h hi⟩
  obtain ⟨FL, HL⟩ := Classical.axiomOfChoice HL
  obtain ⟨FM, HM⟩ := Classical.axiomOfChoice HM
  refine ⟨.mk k b ⟨ng, dg, ex⟩ s ((List.range ll).map fun i => (FL i).1) ((List.range lm).map fun i => (FM i).1) ((List.range lm).map fun i => (FM i).2.1),
    [.v (.int .i64 k), .b b, .b ng, .v (.string dg), .v (.int .i64 ex), .v (.string s), .v (.slice la ll lc), .v (.slice ma lm mc)], rfl, ?_⟩
  simp only [RepV]
  refine ⟨la, lc, (List.range ll).map fun i => (FL i).2, ma, mc, (List.range lm).map fun i => (FM i).2.2, by simp, ?_, RepL.range _ fun i hi => (HL i (List.mem_range.1 hi)).1, by simp, ?_, RepL.range _ fun i hi => (HM i (List.mem_range.1 hi)).2.1, hdg, hs, by simpa [mostLen, reachBytes] using hlr, by simpa [mostLen, reachBytes] using hmr, ?_⟩
  · simp only [List.length_map, List.length_range]
    refine slAt_range hll (fun i hi => ⟨(HL i hi).1.len, (HL i hi).1.clo⟩) ?_
    rcases hle with h0 | ⟨a, rfl, _⟩
    · exact .inl h0
    · exact .inr ⟨a, rfl, fun i hi => (HL i hi).2 a rfl⟩
  · rw [keyRows_range]
    simp only [List.length_map, List.length_range]
    refine slAt_range hlm (fun i hi => ⟨by simp [keyRow, (HM i hi).2.1.len], fun c hc => ?_⟩) ?_
    · cases hc with
      | head => trivial
      | tail _ hc => exact (HM i hi).2.1.clo c hc
    · rcases hme with h0 | ⟨a, rfl, _⟩
      · exact .inl h0
      · exact .inr ⟨a, rfl, fun i hi => (HM i hi).2.2 a rfl⟩
  · intro key hk
    obtain ⟨i, hi, rfl⟩ := List.mem_map.1 hk
    exact (HM i (List.mem_range.1 hi)).1

end
end Go.Sy
/- The closing of a law's row, alike from law to law. -/
namespace Go.Sy
open Go.ChangeShapes Go.RowKit

section
variable {H : Type} {enc : TypeId × Value → H} {P : Program} {W W' : World} {sp : Nat → Bool}

theorem trodAll_stays {T : TypeId → Prop} (K : _root_.Go.Kids P T) (hz : ∀ t e, T t → P.underlying t = some (.slice e) → 0 < P.cellsOf e) :
    ∀ {ts : List TypeId} {vs : List Value} {ds : List (DataW H)} {ps : List MemPlace}, (∀ t ∈ ts, T t) → DataW.TrodAll enc P W 0 (fun _ => true) true ts vs ds ps →
      (∀ p ∈ ps, W.sameAt W' p) → (∀ p ∈ ps, sp p.block = true) → DataW.TrodAll enc P W' 0 sp true ts vs ds ps
  | [], [], [], _, _, h, _, _ => h
  | _ :: _, _ :: _, _ :: _, _, hT, ⟨p, q, ⟨n, h1⟩, h2, e⟩, hs, hb =>
    ⟨p, q, ⟨n, DataW.trod_stays K (fun ht hu => hz _ _ ht hu) (fun h => by cases h) (hT _ List.mem_cons_self) h1 (fun x hx => hs x (by rw [e]; exact List.mem_append_left _ hx)) (fun x hx => hb x (by rw [e]; exact List.mem_append_left _ hx))⟩,
      trodAll_stays K hz (fun t ht => hT t (List.mem_cons_of_mem _ ht)) h2 (fun x hx => hs x (by rw [e]; exact List.mem_append_right _ hx)) (fun x hx => hb x (by rw [e]; exact List.mem_append_right _ hx)), e⟩

theorem below_of_fr {M : Nat → Prop} {w w' : World} (h : Fr M w w') (hM : ∀ b, ¬ M b) : Below w.heap.size w w' := ⟨h.os, h.tape, h.output, h.size, fun k hk => h.block k hk (hM k)⟩

/-- A law's answer is true and nothing that was there has turned. -/
theorem post_of_law {f : Func} {s : ChangeSpec} {apart fresh handsOn again : Bool} {args : Array Value} {ds gs : List (DataW H)} {before : List MemPlace} {tB : TypeId}
    (hl : laidOutB P = true) (hm : mapsRowed P = true) (hz : ∀ t e, t < P.types.size → P.underlying t = some (.slice e) → 0 < P.cellsOf e)
    (hts : ∀ t ∈ f.params.toList, t < P.types.size) (hr : f.resultTypes = #[tB]) (hB : P.underlying tB = some .bool) (hv : s.vars = [])
    (hres : (s.fn H (ds ++ gs)).results = [.lit (.bool true)]) (hargs : (s.fn H (ds ++ gs)).args = ds) (hvars : (s.fn H (ds ++ gs)).vars = [])
    (hW : DataW.Whole enc P f.params.toList s.vars apart W args.toList ds gs before) (hb : Below W.heap.size W W') :
    s.post enc P f apart fresh handsOn again W args (.bool true) W' := by
  have hW' := hW
  obtain ⟨p, q, hA, hV, rfl, hfz, hnd⟩ := hW
  rw [hv] at hV
  obtain ⟨rfl, rfl⟩ := trodVars_none hV
  have hlt : ∀ x ∈ p ++ ([] : List MemPlace), x.block < W.heap.size := fun x hx => hW'.lt x hx
  have h1 : ∀ (b : Nat) (sp : Nat → Bool) (hd : Bool), DataW.TrodAll enc P W' b sp hd f.resultTypes.toList ((Value.bool true).resultList f.resultTypes.size) (s.fn H (ds ++ [])).results [] := by
    intro b sp hd
    rw [hr, hres]
    exact trodAll_mk1 (shut_bool hB true)
  have h2 : ∀ sp : Nat → Bool, (∀ x ∈ p ++ ([] : List MemPlace), sp x.block = true) → DataW.TrodAll enc P W' 0 sp true f.params.toList args.toList (s.fn H (ds ++ [])).args p := by
    intro sp hs
    rw [hargs]
    exact trodAll_stays (T := (· < P.types.size)) (kids_rows hl hm) hz hts hA (fun x hx => hb.same (hlt x (List.mem_append_left _ hx))) (fun x hx => hs x (List.mem_append_left _ hx))
  have h3 : ∀ sp : Nat → Bool, DataW.TrodVars enc P W' sp s.vars (s.fn H (ds ++ [])).vars [] := by
    intro sp
    rw [hv, hvars]
    rfl
  have hold : ∀ x ∈ p ++ ([] : List MemPlace), (fun b => decide (b < W.heap.size)) x.block = true := fun x hx => by simpa using hlt x hx
  refine ⟨ds, [], _, [], p, [], hW', h1 _ _ _, h2 _ hold, h3 _, hb.frame _, fun _ => ⟨ok_one hr rfl (okWide_bool_mk hB _), _, _, ([] ++ p) ++ [], ⟨[] ++ p, [], trodAll_append (h2 _ (fun _ _ => rfl)) (h1 _ _ _), h3 _, rfl, ?_, ?_⟩, ?_⟩⟩
  · intro b off hp
    have hp' : MemPlace.cell b off ∈ p ++ ([] : List MemPlace) := by simpa using hp
    rw [hb.frozen (p := ⟨b, off, none⟩) (hlt _ hp')]
    exact hfz b off hp'
  · intro ha
    have := hnd ha
    simpa using this
  · intro x hp _
    simpa using hp

theorem okWide_agg {tV tL tM tE tD tS tI tB : TypeId} (T : VT P tV tL tM tE tD tS tI tB) {r : Reach} {base : Nat} {v : Value} (h : Value.okWide P W r base tV v) : ∃ cs : Array Value, v = .agg cs ∧ cs.size = P.cellsOf tV := by
  obtain ⟨fs, hu, _⟩ := T.v
  unfold Value.okWide at h
  rw [hu] at h
  obtain ⟨cs, h1, h2, _⟩ := h
  exact ⟨cs, h1, h2⟩

theorem weights_le {ts : List TypeId} {ds : List (DataW H)} (h : (DataW.weightsEach P ts ds).all (· ≤ reachBytes) = true) {j : Nat} {t : TypeId} {d : DataW H} (ht : ts[j]? = some t) (hd : ds[j]? = some d) : ∀ k ∈ d.weights P t, k ≤ reachBytes := by
  intro k hk
  have := List.all_eq_true.1 h k (DataW.weights_mem_each ht hd k hk)
  simpa using this

end
end Go.Sy
/- Closed facts of the program that every row's closing asks. -/
namespace Go.Proofs.YtadnijcgohflhaaDoor.Row
open Go Go.Proofs Go.Sy Go.ChangeShapes Go.WideShapes Go.ChangeAt Go.RowKit
set_option maxRecDepth 100000

theorem own : ownKnob Tryd.prog.godebug = none := by kernel_rfl
theorem laidOut : laidOutB Tryd.prog = true := by kernel_rfl
theorem rowed : mapsRowed Tryd.prog = true := by kernel_rfl
theorem full : ∀ t e, t < Tryd.prog.types.size → Tryd.prog.underlying t = some (.slice e) → 0 < Tryd.prog.cellsOf e := slices_full_of Tryd.prog (by kernel_rfl)
theorem vt : VT Tryd.prog 27 24 25 125 23 9 3 4 where
  v := ⟨_, Tryd.underlying27, rfl⟩
  l := by kernel_rfl
  m := by kernel_rfl
  e := ⟨_, Tryd.underlying125, rfl⟩
  d := ⟨_, Tryd.underlying23, rfl⟩
  s := by kernel_rfl
  i := by kernel_rfl
  b := by kernel_rfl
  cV := by kernel_rfl
  cE := by kernel_rfl
  cD := by kernel_rfl
  cS := by kernel_rfl
  cI := by kernel_rfl
  cB := by kernel_rfl
  cL := by kernel_rfl
  cM := by kernel_rfl
  bV := of_decide_eq_true (by kernel_rfl)
  bE := of_decide_eq_true (by kernel_rfl)
end Go.Proofs.YtadnijcgohflhaaDoor.Row
/- More of what rows hand in: lists of texts, and lists of these. No program in sight. -/
namespace Go.Sy
open Go.ChangeShapes Go.RowKit

section
variable {H : Type} {enc : TypeId × Value → H} {P : Program} {w : World} {sp : Nat → Bool} {held : Bool}

/-- A list, its elements read one by one. -/
theorem open_list {α : Type} {t e : TypeId} {n sz : Nat} {c : Value} {x : DataW H × List MemPlace} (cells : α → List AT) (ok : α → Prop) (a0 : α) (hu : P.underlying t = some (.slice e)) (hc : P.cellsOf e = sz) (hb : 0 < P.bytesOf e)
    (h : DataW.trod enc P w 0 sp held n t [c] = some x) (hw : ∀ k ∈ x.1.weights P t, k ≤ reachBytes) (hcl : ∀ a, ok a → (cells a).length = sz ∧ ∀ c ∈ cells a, c.lt 0)
    (hel : ∀ (m : Nat) (cs : List Value) (y : DataW H × List MemPlace), cs.length = sz → DataW.trod enc P w 0 sp held m e cs = some y → (∀ k ∈ y.1.weights P e, k ≤ reachBytes) → ∃ a, ok a ∧ cs = (cells a).map (AT.den β0)) :
    ∃ (ao : Option Addr) (cap : Nat) (l : List α), c = .slice ao l.length cap ∧ SlAt (snapOf w) ao l.length cap sz (l.map cells) ∧ (∀ a ∈ l, ok a) ∧ l.length ≤ reachBytes := by
  obtain ⟨ao, len, cap, m, rfl, -, hlc, hlr, hle⟩ := open_sl hu hc hb h hw
  have HF : ∀ i, ∃ a : α, i < len → ok a ∧ ∀ ad, ao = some ad → ∀ j v, ((cells a).map (AT.den β0))[j]? = some v → w.cell? (ad.add (i * sz + j)) = some v := by
    intro i
    by_cases hi : i < len
    · rcases hle with h0 | ⟨ad, rfl, hle⟩
      · omega
      · obtain ⟨cs, y, q1, q2, q3, q4⟩ := hle i hi
        obtain ⟨a, ha, rfl⟩ := hel m cs y q1 q3 fun k hk => hw k (q4 k hk)
        exact ⟨a, fun _ => ⟨ha, fun a' ha' => by injection ha' with ha'; subst ha'; exact q2⟩⟩
    · exact ⟨a0, fun h => absurd h hi⟩
  obtain ⟨F, HF⟩ := Classical.axiomOfChoice HF
  refine ⟨ao, cap, (List.range len).map F, by simp, ?_, fun a ha => ?_, by simpa using hlr⟩
  · rw [List.map_map, List.length_map, List.length_range]
    refine slAt_range (R := cells ∘ F) hlc (fun i hi => hcl _ (HF i hi).1) ?_
    rcases hle with h0 | ⟨ad, rfl, _⟩
    · exact .inl h0
    · exact .inr ⟨ad, rfl, fun i hi => (HF i hi).2 ad rfl⟩
  · obtain ⟨i, hi, rfl⟩ := List.mem_map.1 ha
    exact (HF i (List.mem_range.1 hi)).1

theorem open_strL {t e : TypeId} {n : Nat} {c : Value} {x : DataW H × List MemPlace} (hu : P.underlying t = some (.slice e)) (he : P.underlying e = some .string) (hc : P.cellsOf e = 1) (hb : 0 < P.bytesOf e)
    (h : DataW.trod enc P w 0 sp held n t [c] = some x) (hw : ∀ k ∈ x.1.weights P t, k ≤ reachBytes) :
    ∃ (ao : Option Addr) (cap : Nat) (l : List ByteArray), c = .slice ao l.length cap ∧ SlAt (snapOf w) ao l.length cap 1 (strRows l) ∧ (∀ s ∈ l, s.size ≤ mostLen) ∧ l.length ≤ reachBytes :=
  open_list (fun s => [.v (.string s)]) (fun s => s.size ≤ mostLen) ⟨#[]⟩ hu hc hb h hw (fun a _ => ⟨rfl, fun c hc => by cases hc with | head => trivial | tail _ h => cases h⟩) fun m cs y hl hy hk => by
    match cs, hl with
    | [c], _ =>
      obtain ⟨s, rfl, hs⟩ := open_str he hy hk
      exact ⟨s, hs, rfl⟩

theorem open_srL {t e u : TypeId} {n : Nat} {c : Value} {x : DataW H × List MemPlace} (hu : P.underlying t = some (.slice e)) (hc : P.cellsOf e = 1) (hb : 0 < P.bytesOf e) (he : P.underlying e = some (.slice u)) (hs : P.underlying u = some .string) (hcu : P.cellsOf u = 1) (hbu : 0 < P.bytesOf u)
    (h : DataW.trod enc P w 0 sp held n t [c] = some x) (hw : ∀ k ∈ x.1.weights P t, k ≤ reachBytes) :
    ∃ (ao : Option Addr) (cap : Nat) (l : List SRow), c = .slice ao l.length cap ∧ SlAt (snapOf w) ao l.length cap 1 (srRows l) ∧ (∀ r ∈ l, SrOk (snapOf w) r) ∧ l.length ≤ 140737488355328 := by
  obtain ⟨ao, cap, l, h1, h2, h3, h4⟩ := open_list srCells (SrOk (snapOf w)) ⟨none, 0, []⟩ hu hc hb h hw (fun a _ => ⟨rfl, fun c hc => by cases hc with | head => trivial | tail _ h => cases h⟩) fun m cs y hl hy hk => by
    match cs, hl with
    | [c], _ =>
      obtain ⟨ao, cap, l, rfl, h2, -, h4⟩ := open_strL he hs hcu hbu hy hk
      exact ⟨⟨ao, cap, l⟩, ⟨Nat.le_trans h4 (by decide), h2⟩, rfl⟩
  exact ⟨ao, cap, l, h1, h2, h3, Nat.le_trans h4 (by decide)⟩
end
end Go.Sy
