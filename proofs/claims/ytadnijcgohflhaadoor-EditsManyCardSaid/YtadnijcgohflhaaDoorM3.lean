/- Parts of the proof of CEditsMany: SyH, SyI, SyJ, SyK, SyL. No conditions. -/
import Derived.Test.YtadnijcgohflhaaDoorM2
/- Slices that the call makes; sealing; calls that change what is handed in. No program in sight. -/
namespace Go.Sy

/-! ### append -/

def AT.val (c : AT) : Value := c.den β0

theorem AT.den_val {c : AT} (h : c.lt 0) (β : Nat → Addr) : c.den β = c.val := AT.den_congr (n := 0) (fun i hi => by omega) h

section
variable {cf : Cf} {σ : Snap} {hp : HP} {A : List AE} {β : Nat → Addr} {w : World}

theorem StW.drew' (h : StW cf σ hp A β w) : StW cf σ hp A β w.drew :=
  ⟨h.os, h.tape, h.output, h.size, h.fr, h.sealed, h.le, h.grow, h.loc, h.ro, h.inj, h.arr, h.arrd, h.arrh⟩

theorem set_get {A : List AE} {i j : Nat} {E' F : AE} (h : (A.set i E')[j]? = some F) : (i = j ∧ F = E') ∨ (i ≠ j ∧ A[j]? = some F) := by
  rw [List.getElem?_set] at h
  by_cases hij : i = j
  · rw [if_pos hij] at h
    split at h
    · injection h with h; exact .inl ⟨hij, h.symm⟩
    · cases h
  · rw [if_neg hij] at h; exact .inr ⟨hij, h⟩

/-- The array's own block is laid anew. -/
theorem StW.setArr (h : StW cf σ hp A β w) {i : Nat} {E E' : AE} (hi : A[i]? = some E) {g : Nat} {cur cur' : Array Value} (hg : E.ao = some ⟨g, 0, none⟩) (hw : w.heap[g]? = some (.cells cur E.e (0, 0)))
    (hao : E'.ao = E.ao) (he : E'.e = E.e) (hsz : E'.sz = E.sz) (hcap : E'.cap = E.cap) (hn : E'.n ≤ E'.cap) (hl : E'.xs.length = E'.n * E'.sz) (hs : cur'.size = E'.cap * E'.sz) (ht : cur'.toList.take (E'.n * E'.sz) = E'.xs) :
    StW cf σ hp (A.set i E') β (w.setRow g cur') := by
  have hE := h.arr i E hi
  have hblk : E.blk = some g := by simp [AE.blk, hg]
  have hblk' : E'.blk = some g := by simp [AE.blk, hao, hg]
  obtain ⟨hlt, hσ, hown⟩ := hE.lt hblk
  have hoth : ∀ b, b ≠ g → (w.setRow g cur').heap[b]? = w.heap[b]? := fun b hb => setRow_other w g b _ hb
  have hcm : E.cap ≤ maxLen := by
    rcases hE.2 with h2 | ⟨g', c', h3, h4, h5, h6, _⟩
    · rw [h2.1] at hg; cases hg
    · exact h6
  refine ⟨h.os, h.tape, h.output, by have := h.size; simpa using this, fun b hb hm => ?_, fun b ob hs => ?_, h.le, h.grow, fun j e' l hj => ?_, h.ro, h.inj, fun j F hF => ?_, fun j k F G hF hG hjk => ?_, fun j k F e' l hF hk => ?_⟩
  · rw [hoth b (fun hc => by subst hc; rcases hown with h4 | h4 <;> first | omega | exact hm h4)]; exact h.fr b hb hm
  · rw [hoth b (fun hc => by subst hc; rw [hσ] at hs; cases hs)]; exact h.sealed b ob hs
  · obtain ⟨g1, g2, g3⟩ := h.loc j e' l hj
    exact ⟨g1, by rw [hoth _ (fun hc => h.arrh i j E e' l hi hj (by rw [hc]; exact hblk))]; exact g2, g3⟩
  · rcases set_get hF with ⟨rfl, rfl⟩ | ⟨hij, hF⟩
    · refine ⟨hl, .inr ⟨g, cur', by rw [hao, hg], ?_, hn, by rw [hcap]; exact hcm, hs, ht, hσ, hown⟩⟩
      rw [he]; exact setRow_heap w g cur _ _ _ hw
    · exact (h.arr j F hF).keep fun q hq => hoth q fun hc => h.arrd i j E F hi hF hij g hblk (hc ▸ hq)
  · intro q hq
    rcases set_get hF with ⟨rfl, rfl⟩ | ⟨hij, hF'⟩ <;> rcases set_get hG with ⟨rfl, rfl⟩ | ⟨hik, hG'⟩
    · exact absurd rfl hjk
    · rw [hblk'] at hq; injection hq with hq; subst hq
      exact h.arrd _ _ E G hi hG' hjk _ hblk
    · rw [hblk']; intro hc; injection hc with hc; subst hc
      exact h.arrd _ _ E F hi hF' hij _ hblk hq
    · exact h.arrd _ _ F G hF' hG' hjk q hq
  · rcases set_get hF with ⟨rfl, rfl⟩ | ⟨hij, hF⟩
    · rw [hblk', ← hblk]; exact h.arrh _ k E e' l hi hk
    · exact h.arrh j k F e' l hF hk

/-- The array moves to a new block. -/
theorem StW.moveArr (h : StW cf σ hp A β w) {i : Nat} {E E' : AE} (_ : A[i]? = some E) {cur' : Array Value}
    (hao : E'.ao = some ⟨w.heap.size, 0, none⟩) (hn : E'.n ≤ E'.cap) (hcm : E'.cap ≤ maxLen) (hl : E'.xs.length = E'.n * E'.sz) (hs : cur'.size = E'.cap * E'.sz) (ht : cur'.toList.take (E'.n * E'.sz) = E'.xs) :
    StW cf σ hp (A.set i E') β (w.drew.alloc (.cells cur' E'.e)) := by
  have hblk' : E'.blk = some w.heap.size := by simp [AE.blk, hao]
  have hoth : ∀ b, b < w.heap.size → (w.drew.alloc (.cells cur' E'.e)).heap[b]? = w.heap[b]? := fun b hb => by
    show (w.heap.push _)[b]? = _; rw [Array.getElem?_push, if_neg (Nat.ne_of_lt hb)]
  have hσ : σ w.heap.size = none := by
    cases hs : σ w.heap.size with
    | none => rfl
    | some ob =>
      have := h.sealed _ _ hs
      have := (Array.getElem?_eq_some_iff.1 this).1
      omega
  have hsz : w.heap.size ≤ (w.drew.alloc (.cells cur' E'.e)).heap.size := by
    show w.heap.size ≤ (w.heap.push _).size; rw [Array.size_push]; omega
  refine ⟨h.os, h.tape, h.output, Nat.le_trans h.size hsz, fun b hb hm => ?_, fun b ob hs => ?_, h.le, h.grow, fun j e' l hj => ?_, h.ro, h.inj, fun j F hF => ?_, fun j k F G hF hG hjk => ?_, fun j k F e' l hF hk => ?_⟩
  · rw [hoth b (Nat.lt_of_lt_of_le hb h.size)]; exact h.fr b hb hm
  · have := h.sealed b ob hs
    rw [hoth b (Array.getElem?_eq_some_iff.1 this).1]; exact this
  · obtain ⟨g1, g2, g3⟩ := h.loc j e' l hj
    exact ⟨g1, by rw [hoth _ (Array.getElem?_eq_some_iff.1 g2).1]; exact g2, g3⟩
  · rcases set_get hF with ⟨rfl, rfl⟩ | ⟨hij, hF⟩
    · refine ⟨hl, .inr ⟨w.heap.size, cur', hao, ?_, hn, hcm, hs, ht, hσ, .inl h.size⟩⟩
      show (w.heap.push _)[w.heap.size]? = _
      rw [Array.getElem?_push, if_pos rfl]
    · exact (h.arr j F hF).keep fun q hq => hoth q ((h.arr j F hF).lt hq).1
  · intro q hq
    rcases set_get hF with ⟨rfl, rfl⟩ | ⟨hij, hF'⟩ <;> rcases set_get hG with ⟨rfl, rfl⟩ | ⟨hik, hG'⟩
    · exact absurd rfl hjk
    · rw [hblk'] at hq; injection hq with hq
      intro hc
      have := ((h.arr _ G hG').lt hc).1
      omega
    · rw [hblk']
      intro hc; injection hc with hc
      have := ((h.arr _ F hF').lt hq).1
      omega
    · exact h.arrd _ _ F G hF' hG' hjk q hq
  · rcases set_get hF with ⟨rfl, rfl⟩ | ⟨hij, hF⟩
    · rw [hblk']; intro hc; injection hc with hc
      have := (Array.getElem?_eq_some_iff.1 (h.loc k e' l hk).2.1).1
      omega
    · exact h.arrh j k F e' l hF hk

theorem set_same {A : List AE} {i : Nat} {E : AE} (h : A[i]? = some E) : A.set i E = A := by
  apply List.ext_getElem?
  intro j
  rw [List.getElem?_set]
  by_cases hij : i = j
  · subst hij
    rw [if_pos rfl, if_pos (List.getElem?_eq_some_iff.1 h).1, h]
  · rw [if_neg hij]

/-- 'append(s, x...)' where s is the call's own. -/
theorem StW.append (h : StW cf σ hp A β w) {i : Nat} {E : AE} (hi : A[i]? = some E) {t u ty : TypeId} {ie : TypeInfo} {z x : Value} {m : Nat} {news : List Value} {du : TypeDesc}
    (ht : cf.P.underlying t = some (.slice E.e)) (hu : cf.P.underlying u = some du) (hdu : (∃ e', du = .slice e') ∨ du = .string) (hie : cf.P.info? E.e = some ie) (hz : ie.zero = some z) (hsz : ie.size = E.sz) (hzs : z.cells.size = E.sz)
    (hlen : ∀ w', (Builtin.lenOf x).run cf.P w' = .ok m w') (hfc : ∀ w' : World, w'.heap = w.heap → (Builtin.firstCells E.sz m x).run cf.P w' = .ok news.toArray w') (hnl : news.length = m * E.sz) (h1 : ∀ v ∈ news, v.oneCell' = true)
    (hmax : E.n + m ≤ maxLen) (hbytes : (E.n + m) * ie.bytes ≤ 140737488355328) :
    ∃ ao' cap' w', (Builtin.append_ #[t, u] ty #[.slice E.ao E.n E.cap, x]).run cf.P w = .ok (.slice ao' (E.n + m) cap') w' ∧ StW cf σ hp (A.set i ⟨ao', E.n + m, cap', E.e, E.sz, E.xs ++ news⟩) β w' ∧ E.n + m ≤ cap' := by
  have hE := h.arr i E hi
  have hxl : (E.xs ++ news).length = (E.n + m) * E.sz := by rw [List.length_append, hE.1, hnl, Nat.add_mul]
  by_cases hroom : E.n + m ≤ E.cap
  · -- there is room
    rcases hE.2 with ⟨e1, e2, e3⟩ | ⟨g, cur, hg, hw, hnc, hcm, hcs, htk, hσ, hown⟩
    · have hm0 : m = 0 := by omega
      subst hm0
      have hn0 : news = [] := List.eq_nil_of_length_eq_zero (by simpa using hnl)
      subst hn0
      refine ⟨E.ao, E.cap, w, ?_, ?_, hroom⟩
      · have hf := hfc w rfl
        rcases hdu with ⟨e', rfl⟩ | rfl <;> simp only [Builtin.append_, List.getElem?_toArray, List.getElem?_cons_zero, List.getElem?_cons_succ, Sem.run_bind, run_underlying ht, Result.andThen_ok, run_size hie, hsz, run_underlying hu, Bool.false_eq_true, if_false, hlen, Nat.add_zero, e1, e2, e3, Nat.le_refl, if_true, Bool.not_false, hf, Sem.run_pure]
      · have : (⟨E.ao, E.n + 0, E.cap, E.e, E.sz, E.xs ++ []⟩ : AE) = E := by cases E; simp
        rw [this, set_same hi]; exact h
    · have hst := run_storeCells_at cf.P g (E.n * E.sz) E.e news 0 cur w hw (by rw [hcs, hnl, Nat.add_zero, ← Nat.add_mul]; exact Nat.mul_le_mul_right _ hroom) h1
      simp only [Nat.add_zero] at hst
      refine ⟨E.ao, E.cap, w.setRow g (cur.toList.take (E.n * E.sz) ++ news ++ cur.toList.drop (E.n * E.sz + news.length)).toArray, ?_, h.setArr hi hg hw rfl rfl rfl rfl hroom hxl ?_ ?_, hroom⟩
      · have hf := hfc w rfl
        rcases hdu with ⟨e', rfl⟩ | rfl <;> simp only [Builtin.append_, List.getElem?_toArray, List.getElem?_cons_zero, List.getElem?_cons_succ, Sem.run_bind, run_underlying ht, Result.andThen_ok, run_size hie, hsz, run_underlying hu, Bool.false_eq_true, if_false, hlen, hroom, if_true, Bool.not_false, hf, Sem.run_pure, hg, add0, hst]
      · have e1 : E.n * E.sz + news.length ≤ cur.size := by rw [hcs, hnl, ← Nat.add_mul]; exact Nat.mul_le_mul_right _ hroom
        simp only [List.size_toArray, List.length_append, List.length_take, List.length_drop, Array.length_toList, hcs] at e1 ⊢
        rw [← hcs] at e1 ⊢
        omega
      · have e1 : E.n * E.sz ≤ cur.size := by rw [hcs]; exact Nat.mul_le_mul_right _ hnc
        simp only [htk]
        rw [← hxl]
        exact List.take_left
  · -- a new array
    have hfits := growslice_fits (old := E.cap) (need := E.n + m) (bytes := ie.bytes) (by omega) hbytes
    have hge := grownCap_ge w (E.n + m) E.cap E.e
    have hgm := grownCap_le_maxLen w (E.n + m) E.cap E.e hmax
    have hold : ∀ w' : World, w'.heap = w.heap → (Builtin.firstCells E.sz E.n (.slice E.ao E.n E.cap)).run cf.P w' = .ok E.xs.toArray w' := by
      intro w' hh
      rcases hE.2 with ⟨e1, e2, e3⟩ | ⟨g, cur, hg, hw, hnc, hcm, hcs, htk, hσ, hown⟩
      · have : E.xs = [] := List.eq_nil_of_length_eq_zero (by rw [hE.1, e2]; simp)
        rw [e1, this]; rfl
      · rw [hg]
        refine run_firstCells_some (P := cf.P) w' E.sz E.n ⟨g, 0, none⟩ E.n E.cap E.xs hE.1 fun j v hv => ?_
        have hw' : w'.heap[g]? = some (.cells cur E.e (0, 0)) := by rw [hh]; exact hw
        rw [add0, cell_of_row w' g j cur E.e (0, 0) hw']
        rw [← htk, List.getElem?_take] at hv
        split at hv
        · simpa using hv
        · cases hv
    have hmi : ¬ (9223372036854775807 < ((E.n + m : Nat) : Int)) := by simp only [maxLen] at hmax; omega
    have h48 : ¬ (281474976710656 < Builtin.nextslicecap (E.n + m) E.cap * ie.bytes) := by omega
    refine ⟨some ⟨w.heap.size, 0, none⟩, grownCap w (E.n + m) E.cap E.e, w.drew.alloc (.cells (E.xs.toArray ++ news.toArray ++ Builtin.zeroCells z.cells (grownCap w (E.n + m) E.cap E.e - (E.n + m))) E.e), ?_, ?_, hge⟩
    · have hf := hfc w.drew rfl
      have hfo := hold w.drew rfl
      have hfo' : (Builtin.firstCells E.sz E.n (.slice E.ao E.n E.cap)).run cf.P { w with drawn := w.drawn + 1 } = .ok E.xs.toArray { w with drawn := w.drawn + 1 } := hfo
      have hf' : (Builtin.firstCells E.sz m x).run cf.P { w with drawn := w.drawn + 1 } = .ok news.toArray { w with drawn := w.drawn + 1 } := hf
      rcases hdu with ⟨e', rfl⟩ | rfl <;> (
       simp only [Builtin.append_, List.getElem?_toArray, List.getElem?_cons_zero, List.getElem?_cons_succ, Sem.run_bind, run_underlying ht, Result.andThen_ok, run_size hie, hsz, run_underlying hu, Bool.false_eq_true, if_false, hlen, hroom,
        run_tinfo hie, Sem.run_pure, Bool.not_false, if_true]
       simp only [IntKind.max_i64, gt_iff_lt, hmi, false_and, if_false, h48, Sem.run_pure, Result.andThen_ok, Sem.run_bind, run_tinfo hie, run_choose, Question.forced, Bool.false_eq_true, run_askRoom]
       simp only [hfo', hf', Result.andThen_ok, run_zero hie hz, newRow, Sem.run_bind, run_newObj, Sem.run_pure]
       rfl)
    · refine h.moveArr hi rfl hge hgm hxl ?_ ?_
      · simp only [Array.size_append, List.size_toArray, size_zeroCells, hzs, hE.1, hnl, ← Nat.add_mul]
        congr 1
        omega
      · simp only [Array.toList_append, List.append_assoc]
        rw [← List.append_assoc, ← hxl]
        exact List.take_left
end

/-! ### Rules -/

def canSink : Tag → Bool
  | .free | .sink => true
  | _ => false

section
variable {cf : Cf} {Q : Exit → Act → World → Prop} {σ : Snap} {env : Env} {hp : HP} {A : List AE} {nh : Nat} {it : Item} {rest : List Item}

/-- An operation that changes the world, in a region without a draw, or alone for good. -/
theorem oj_step {d : Nat} (hd : it.o.dst = some d) (hg : guardVal it.guard env = some true) (hN : Nat.blt d cf.N = true) (ht : canSink it.tag = true)
    (h : Bd env hp nh → ∀ a β, StA cf env β a → ∀ w, StW cf σ hp A β w → ∃ y σ' hp' A' nh' w' β', (execOp a.eval it.o).run cf.P w = .ok (.value (SV.den β' y)) w' ∧ StA cf env β' a ∧ Bd ((d, y) :: env) hp' nh' ∧ StW cf σ' hp' A' β' w' ∧
      OJ cf rest Q σ' ((d, y) :: env) hp' A' nh') : OJ cf (it :: rest) Q σ env hp A nh := by
  refine ⟨fun hb a β ha hex => ?_⟩
  have hN' : d < cf.N := by simpa [Nat.blt_eq] using hN
  have key : ∀ w, StW cf σ hp A β w → ∀ Q', it.o.wq cf.P a w (fun a' w' => ∃ E' S' : World → Prop, S' w' ∧ (∀ x, S' x → E' x) ∧ RunT cf.P Q rest E' S' a') Q' := by
    intro w hw Q'
    obtain ⟨y, σ', hp', A', nh', w', β', hrun, ha', hb', hw', hj⟩ := h hb a β ha w hw
    unfold Oper.wq
    rw [hrun]
    refine ⟨_, _, hw', fun _ h => h, ?_⟩
    rw [hd]
    exact hj.run hb' _ β' (ha'.put hN' y) ⟨_, hw'⟩
  simp only [RunT]
  rw [if_pos (guardVal_ok ha hg)]
  cases htag : it.tag with
  | pure => rw [htag] at ht; cases ht
  | quiet => rw [htag] at ht; cases ht
  | keep => rw [htag] at ht; cases ht
  | sink => exact fun w hw => key w hw _
  | free => exact fun w hw => key w hw _

/-- Which operands are appended. -/
def appendOf : Op → Option (Operand × Operand × TypeId × TypeId)
  | .call c =>
    match c.callee, c.args.toList, c.argTypes.toList with
    | .builtin .append, [s, x], [t, u] => some (s, x, t, u)
    | _, _, _ => none
  | _ => none

theorem appendOf_run {o : Oper} {s x : Operand} {t u : TypeId} (h : appendOf o.op = some (s, x, t, u)) {P : Program} {a : Act} {w w' : World} {v : Value}
    (hr : (Builtin.append_ #[t, u] o.type #[a.eval s, a.eval x]).run P w = .ok v w') : (execOp a.eval o).run P w = .ok (.value v) w' := by
  unfold appendOf at h
  split at h
  · rename_i c hop
    split at h
    · rename_i s' x' t' u' hcal hargs htys
      injection h with h
      simp only [Prod.mk.injEq] at h
      obtain ⟨rfl, rfl, rfl, rfl⟩ := h
      have e1 : c.args = #[s', x'] := by
        cases hq : c.args with
        | mk l => rw [hq] at hargs; simp only at hargs; rw [hargs]
      have e2 : c.argTypes = #[t', u'] := by
        cases hq : c.argTypes with
        | mk l => rw [hq] at htys; simp only at htys; rw [htys]
      simp only [execOp, hop, resolve, hcal, e1, e2, invoke, builtin, Sem.run_bind, Sem.run_pure, Result.andThen_ok, List.map_toArray, List.map_cons, List.map_nil, hr]
    · cases h
  · cases h

def slOrStr : TK → Bool
  | .slice _ => true
  | .str => true
  | _ => false

theorem slOrStr_ok {d : TypeDesc} (h : slOrStr (kindD d) = true) : (∃ e', d = .slice e') ∨ d = .string := by
  cases d <;> first | exact .inl ⟨_, rfl⟩ | exact .inr rfl | cases h

/-- 'append(s, x...)', s the call's own array number i; x a slice that is written out in place, or made by the call. -/
theorem oj_append_lit {d : Nat} {s x : Operand} {t u e : Nat} {T : List (Nat × TI)} (hT : TTok cf.P T) {ti tu te : TI} (i : Nat) {E : AE} {ao : Option Addr} {n cap j m : Nat} {k : HK} {cs : List AT}
    (hop : appendOf it.o.op = some (s, x, t, u)) (hd : it.o.dst = some d) (hg : guardVal it.guard env = some true) (hN : Nat.blt d cf.N = true) (htg : canSink it.tag = true)
    (hs : evalO env s = some (.a (.v (.slice ao n cap)))) (hx : evalO env x = some (.a (.sl j m))) (hrow : hp.get j = some (k, cs)) (hA : A[i]? = some E) (hE : (E.ao, E.n, E.cap, E.e) = (ao, n, cap, e))
    (ht : tget T t = some ti) (hkt : ti.kind = .slice e) (hu : tget T u = some tu) (hku : slOrStr tu.kind = true) (hte : tget T e = some te) (hsz : E.sz = te.size) (hzl : te.zero.length = te.size) (hcs : cs.length = m * te.size)
    (hclo : ∀ c ∈ cs, c.lt 0) (hone : cs.all AT.one = true) (hmax : n + m ≤ 9223372036854775807) (hby : (n + m) * te.bytes ≤ 140737488355328)
    (hk : ∀ ao' cap', n + m ≤ cap' → OJ cf rest Q σ ((d, .a (.v (.slice ao' (n + m) cap'))) :: env) hp (A.set i ⟨ao', n + m, cap', E.e, E.sz, E.xs ++ cs.map AT.val⟩) nh) : OJ cf (it :: rest) Q σ env hp A nh := by
  simp only [Prod.mk.injEq] at hE
  obtain ⟨rfl, rfl, rfl, rfl⟩ := hE
  refine oj_step hd hg hN htg fun hb a β ha w hw => ?_
  obtain ⟨i1, d1, z1, hs1⟩ := tiOf_spec (hT _ _ ht)
  obtain ⟨i2, d2, z2, hs2⟩ := tiOf_spec (hT _ _ hu)
  obtain ⟨i3, d3, z3, hs3⟩ := tiOf_spec (hT _ _ hte)
  have hut : cf.P.underlying t = some (.slice E.e) := by
    have h1 := hs1.kind
    rw [hkt] at h1
    have h2 := hs1.und
    cases d1 <;> first
      | (simp only [kindD, TK.slice.injEq] at h1; subst h1; exact h2)
      | (simp only [kindD] at h1; cases h1)
  have hz3 : z3.cells.size = E.sz := by
    have := zero_den hs3 β
    rw [← this, hsz]
    simp [hzl]
  have hcells : ∀ j' v, (cs.map AT.val)[j']? = some v → w.cell? ((β j).add j') = some v := by
    intro j' v hv
    rw [List.getElem?_map] at hv
    obtain ⟨c, hc, rfl⟩ := map_some hv
    rw [← AT.den_val (hclo c (List.mem_of_getElem? hc)) β]
    exact hw.cell hrow hc
  have hnl : (cs.map AT.val).length = m * E.sz := by rw [List.length_map, hcs, hsz]
  have hxe : a.eval x = .slice (some (β j)) m m := evalO_eval ha hx
  have hse : a.eval s = .slice E.ao E.n E.cap := evalO_eval ha hs
  obtain ⟨ao', cap', w', hrun, hw', hc'⟩ := hw.append hA (t := t) (u := u) (ty := it.o.type) (x := .slice (some (β j)) m m) (m := m) (news := cs.map AT.val) hut hs2.und (slOrStr_ok (by rw [hs2.kind]; exact hku)) hs3.info hs3.zero
    (by rw [hs3.size, hsz]) hz3 (fun _ => rfl) (fun w'' hh => run_firstCells_some (P := cf.P) w'' E.sz m (β j) m m _ hnl fun j' v hv => by
      have := hcells j' v hv
      rw [World.cell?, hh]; exact this) hnl
    (fun v hv => by obtain ⟨c, hc, rfl⟩ := List.mem_map.1 hv; exact AT.one_den β0 (List.all_eq_true.1 hone c hc)) (by simp only [maxLen]; exact hmax) (by rw [hs3.bytes]; exact hby)
  refine ⟨.a (.v (.slice ao' (E.n + m) cap')), σ, hp, _, nh, w', β, ?_, ha, hb.put (x := .a (.v (.slice ao' (E.n + m) cap'))) trivial d, hw', hk ao' cap' hc'⟩
  exact appendOf_run hop (by rw [hse, hxe]; exact hrun)

/-- 'append(s, x...)', x sealed. -/
theorem oj_append_sl {d : Nat} {s x : Operand} {t u e : Nat} {T : List (Nat × TI)} (hT : TTok cf.P T) {ti tu te : TI} (i : Nat) {E : AE} {ao : Option Addr} {n cap : Nat} {xo : Option Addr} {m xc : Nat} {rows : List (List AT)}
    (hop : appendOf it.o.op = some (s, x, t, u)) (hd : it.o.dst = some d) (hg : guardVal it.guard env = some true) (hN : Nat.blt d cf.N = true) (htg : canSink it.tag = true)
    (hs : evalO env s = some (.a (.v (.slice ao n cap)))) (hx : evalO env x = some (.a (.v (.slice xo m xc)))) (H : SlAt σ xo m xc te.size rows) (hA : A[i]? = some E) (hE : (E.ao, E.n, E.cap, E.e) = (ao, n, cap, e))
    (ht : tget T t = some ti) (hkt : ti.kind = .slice e) (hu : tget T u = some tu) (hku : slOrStr tu.kind = true) (hte : tget T e = some te) (hsz : E.sz = te.size) (hzl : te.zero.length = te.size)
    (hone : ∀ r ∈ rows, r.all AT.one = true) (hmax : n + m ≤ 9223372036854775807) (hby : (n + m) * te.bytes ≤ 140737488355328)
    (hk : ∀ ao' cap', n + m ≤ cap' → OJ cf rest Q σ ((d, .a (.v (.slice ao' (n + m) cap'))) :: env) hp (A.set i ⟨ao', n + m, cap', E.e, E.sz, E.xs ++ rows.flatten.map AT.val⟩) nh) : OJ cf (it :: rest) Q σ env hp A nh := by
  simp only [Prod.mk.injEq] at hE
  obtain ⟨rfl, rfl, rfl, rfl⟩ := hE
  refine oj_step hd hg hN htg fun hb a β ha w hw => ?_
  obtain ⟨i1, d1, z1, hs1⟩ := tiOf_spec (hT _ _ ht)
  obtain ⟨i2, d2, z2, hs2⟩ := tiOf_spec (hT _ _ hu)
  obtain ⟨i3, d3, z3, hs3⟩ := tiOf_spec (hT _ _ hte)
  have hut : cf.P.underlying t = some (.slice E.e) := by
    have h1 := hs1.kind
    rw [hkt] at h1
    have h2 := hs1.und
    cases d1 <;> first
      | (simp only [kindD, TK.slice.injEq] at h1; subst h1; exact h2)
      | (simp only [kindD] at h1; cases h1)
  have hz3 : z3.cells.size = E.sz := by
    have := zero_den hs3 β
    rw [← this, hsz]
    simp [hzl]
  have hlenf : ∀ (l : List (List AT)), (∀ r ∈ l, r.length = te.size) → l.flatten.length = l.length * te.size := by
    intro l hl
    induction l with
    | nil => simp
    | cons r l ih => simp [hl r (List.mem_cons_self ..), ih fun q hq => hl q (List.mem_cons_of_mem _ hq), Nat.add_mul]; omega
  have hnl : (rows.flatten.map AT.val).length = m * E.sz := by
    rw [List.length_map, hlenf rows fun r hr => (H.clo r hr).1, H.len, hsz]
  have hget : ∀ (l : List (List AT)), (∀ r ∈ l, r.length = te.size) → ∀ q c, l.flatten[q]? = some c → ∃ i r j, l[i]? = some r ∧ r[j]? = some c ∧ q = i * te.size + j := by
    intro l hl
    induction l with
    | nil => intro q c hq; simp at hq
    | cons r l ih =>
      intro q c hq
      have hr := hl r (List.mem_cons_self ..)
      rw [List.flatten_cons] at hq
      by_cases hlt : q < te.size
      · rw [List.getElem?_append_left (by omega)] at hq
        exact ⟨0, r, q, rfl, hq, by omega⟩
      · rw [List.getElem?_append_right (by omega)] at hq
        obtain ⟨i, r', j, h1, h2, h3⟩ := ih (fun q hq => hl q (List.mem_cons_of_mem _ hq)) _ c hq
        exact ⟨i + 1, r', j, by simpa using h1, h2, by rw [Nat.add_mul]; omega⟩
  have hxe : a.eval x = .slice xo m xc := evalO_eval ha hx
  have hse : a.eval s = .slice E.ao E.n E.cap := evalO_eval ha hs
  have hfc : ∀ w'' : World, w''.heap = w.heap → (Builtin.firstCells E.sz m (.slice xo m xc)).run cf.P w'' = .ok (rows.flatten.map AT.val).toArray w'' := by
    intro w'' hh
    rcases H.at_ with h0 | ⟨ad, rfl, h2⟩
    · subst h0
      have hr0 : rows = [] := List.eq_nil_of_length_eq_zero H.len
      subst hr0
      cases xo with
      | none => rfl
      | some ad => simp [Builtin.firstCells, loadCells, loadCellsFrom]
    · refine run_firstCells_some (P := cf.P) w'' E.sz m ad m xc _ hnl fun q v hv => ?_
      rw [List.getElem?_map] at hv
      obtain ⟨c, hc, rfl⟩ := map_some hv
      obtain ⟨i, r, j, h3, h4, rfl⟩ := hget rows (fun r hr => (H.clo r hr).1) q c hc
      have := Snap.cell_sealed hw (h2 i r j c h3 h4)
      rw [World.cell?, hh]; exact this
  obtain ⟨ao', cap', w', hrun, hw', hc'⟩ := hw.append hA (t := t) (u := u) (ty := it.o.type) (x := .slice xo m xc) (m := m) (news := rows.flatten.map AT.val) hut hs2.und (slOrStr_ok (by rw [hs2.kind]; exact hku)) hs3.info hs3.zero
    (by rw [hs3.size, hsz]) hz3 (fun _ => rfl) hfc hnl
    (fun v hv => by
      obtain ⟨c, hc, rfl⟩ := List.mem_map.1 hv
      obtain ⟨r, hr, hcr⟩ := List.mem_flatten.1 hc
      exact AT.one_den β0 (List.all_eq_true.1 (hone r hr) c hcr)) (by simp only [maxLen]; exact hmax) (by rw [hs3.bytes]; exact hby)
  refine ⟨.a (.v (.slice ao' (E.n + m) cap')), σ, hp, _, nh, w', β, ?_, ha, hb.put (x := .a (.v (.slice ao' (E.n + m) cap'))) trivial d, hw', hk ao' cap' hc'⟩
  exact appendOf_run hop (by rw [hse, hxe]; exact hrun)

/-! ### Ghost steps: a nil slice is owned; a row, an array is sealed -/

/-- A nil slice may be taken for one's own. -/
theorem StW.nilArr {β : Nat → Addr} {w : World} (e sz : Nat) : StW cf σ hp A β w ↔ StW cf σ hp (A ++ [⟨none, 0, 0, e, sz, []⟩]) β w := by
  have hget : ∀ {i : Nat} {E : AE}, (A ++ [(⟨none, 0, 0, e, sz, []⟩ : AE)])[i]? = some E → A[i]? = some E ∨ E = ⟨none, 0, 0, e, sz, []⟩ := by
    intro i E hi
    by_cases hlt : i < A.length
    · rw [List.getElem?_append_left hlt] at hi; exact .inl hi
    · rw [List.getElem?_append_right (by omega)] at hi
      have := List.mem_of_getElem? hi
      exact .inr (by simpa using this)
  have hget' : ∀ {i : Nat} {E : AE}, A[i]? = some E → (A ++ [(⟨none, 0, 0, e, sz, []⟩ : AE)])[i]? = some E := by
    intro i E hi
    rw [List.getElem?_append_left (List.getElem?_eq_some_iff.1 hi).1]; exact hi
  constructor
  · intro h
    refine ⟨h.os, h.tape, h.output, h.size, h.fr, h.sealed, h.le, h.grow, h.loc, h.ro, h.inj, fun i E hE => ?_, fun i j E F hE hF hij g hg => ?_, fun i j E e' l hE hj => ?_⟩
    · rcases hget hE with h1 | rfl
      · exact h.arr i E h1
      · exact ⟨by simp, .inl ⟨rfl, rfl, rfl⟩⟩
    · rcases hget hE with h1 | rfl
      · rcases hget hF with h2 | rfl
        · exact h.arrd i j E F h1 h2 hij g hg
        · simp [AE.blk]
      · simp [AE.blk] at hg
    · rcases hget hE with h1 | rfl
      · exact h.arrh i j E e' l h1 hj
      · simp [AE.blk]
  · intro h
    exact ⟨h.os, h.tape, h.output, h.size, h.fr, h.sealed, h.le, h.grow, h.loc, h.ro, h.inj, fun i E hE => h.arr i E (hget' hE), fun i j E F hE hF => h.arrd i j E F (hget' hE) (hget' hF),
      fun i j E e' l hE => h.arrh i j E e' l (hget' hE)⟩

theorem oj_nilarr {l : List Item} (e sz : Nat) (h : OJ cf l Q σ env hp (A ++ [⟨none, 0, 0, e, sz, []⟩]) nh) : OJ cf l Q σ env hp A nh := by
  refine ⟨fun hb a β ha hex => ?_⟩
  have e1 : (fun w => StW cf σ hp A β w) = fun w => StW cf σ hp (A ++ [⟨none, 0, 0, e, sz, []⟩]) β w := by funext w; exact propext (StW.nilArr e sz)
  rw [e1]
  obtain ⟨w, hw⟩ := hex
  exact h.run hb a β ha ⟨w, (StW.nilArr e sz).1 hw⟩
theorem cj_nilarr {c : Code} (e sz : Nat) (h : CJ cf c Q σ env hp (A ++ [⟨none, 0, 0, e, sz, []⟩]) nh) : CJ cf c Q σ env hp A nh :=
  ⟨fun hb a β w ha hw => h.run hb a β w ha ((StW.nilArr e sz).1 hw)⟩

/-- What an array's being sealed means. -/
def ArrSealed (σ : Snap) (E : AE) : Prop := (E.ao = none ∧ E.n = 0) ∨ ∃ g, E.ao = some ⟨g, 0, none⟩ ∧ ∀ (j : Nat) x, E.xs[j]? = some x → σ.cell ⟨g, j, none⟩ = some x

theorem StW.sealArr {β : Nat → Addr} {w : World} (h : StW cf σ hp A β w) {i : Nat} {E : AE} (hi : A[i]? = some E) :
    ∃ σ', σ.le σ' ∧ ArrSealed σ' E ∧ StW cf σ' hp (A.eraseIdx i) β w := by
  have hE := h.arr i E hi
  have hget : ∀ {j : Nat} {F : AE}, (A.eraseIdx i)[j]? = some F → ∃ k, k ≠ i ∧ A[k]? = some F := by
    intro j F hj
    rw [List.getElem?_eraseIdx] at hj
    split at hj
    · exact ⟨j, by omega, hj⟩
    · exact ⟨j + 1, by omega, hj⟩
  have hgetd : ∀ {j k : Nat} {F G : AE}, (A.eraseIdx i)[j]? = some F → (A.eraseIdx i)[k]? = some G → j ≠ k → ∃ p q : Nat, p ≠ q ∧ A[p]? = some F ∧ A[q]? = some G := by
    intro j k F G hj hk hjk
    rw [List.getElem?_eraseIdx] at hj hk
    split at hj <;> split at hk
    · exact ⟨j, k, hjk, hj, hk⟩
    · exact ⟨j, k + 1, by omega, hj, hk⟩
    · exact ⟨j + 1, k, by omega, hj, hk⟩
    · exact ⟨j + 1, k + 1, by omega, hj, hk⟩
  rcases hE.2 with ⟨e1, e2, e3⟩ | ⟨g, cur, hg, hw, hnc, hcm, hcs, htk, hσ, hown⟩
  · refine ⟨σ, Snap.le_refl σ, .inl ⟨e1, e2⟩, h.os, h.tape, h.output, h.size, h.fr, h.sealed, h.le, h.grow, h.loc, h.ro, h.inj, fun j F hF => ?_, fun j k F G hF hG hjk => ?_, fun j k F e' l hF hk => ?_⟩
    · obtain ⟨q, _, hq⟩ := hget hF; exact h.arr q F hq
    · obtain ⟨p, q, hpq, hp', hq'⟩ := hgetd hF hG hjk; exact h.arrd p q F G hp' hq' hpq
    · obtain ⟨q, _, hq⟩ := hget hF; exact h.arrh q k F e' l hq hk
  · have hblk : E.blk = some g := by simp [AE.blk, hg]
    let σ' : Snap := fun b => if b = g then some (.cells cur E.e (0, 0)) else σ b
    have hle : σ.le σ' := by
      intro b o hb
      simp only [σ']
      rw [if_neg (fun hc => by subst hc; rw [hσ] at hb; cases hb)]; exact hb
    have hne : ∀ b, b ≠ g → σ' b = σ b := fun b hb => by simp only [σ']; rw [if_neg hb]
    refine ⟨σ', hle, .inr ⟨g, hg, fun j x hx => ?_⟩, h.os, h.tape, h.output, h.size, h.fr, fun b o hb => ?_, fun b o hb => hle b o (h.le b o hb), fun b hb => ?_, fun j e' l hj => ?_, fun j l hj q c hc => hle.cell (h.ro j l hj q c hc), h.inj, fun j F hF => ?_, fun j k F G hF hG hjk => ?_, fun j k F e' l hF hk => ?_⟩
    · simp only [Snap.cell, σ', if_true]
      rw [← htk, List.getElem?_take] at hx
      split at hx
      · simpa using hx
      · cases hx
    · by_cases hbg : b = g
      · subst hbg
        simp only [σ', if_true] at hb
        injection hb with hb
        rw [← hb]; exact hw
      · rw [hne b hbg] at hb; exact h.sealed b o hb
    · by_cases hbg : b = g
      · subst hbg; exact .inr hown
      · rw [hne b hbg] at hb; exact h.grow b hb
    · obtain ⟨g1, g2, g3, g4⟩ := h.loc j e' l hj
      exact ⟨g1, g2, by rw [hne _ (fun hc => h.arrh i j E e' l hi hj (by rw [hc]; exact hblk))]; exact g3, g4⟩
    · obtain ⟨q, hqi, hq⟩ := hget hF
      obtain ⟨q1, q2⟩ := h.arr q F hq
      refine ⟨q1, q2.imp id ?_⟩
      rintro ⟨g', cur', r1, r2, r3, r4, r5, r6, r7, r8⟩
      refine ⟨g', cur', r1, r2, r3, r4, r5, r6, ?_, r8⟩
      rw [hne g' (fun hc => h.arrd i q E F hi hq (fun e => hqi e.symm) g hblk (by simp [AE.blk, r1, hc]))]; exact r7
    · obtain ⟨p, q, hpq, hp', hq'⟩ := hgetd hF hG hjk; exact h.arrd p q F G hp' hq' hpq
    · obtain ⟨q, _, hq⟩ := hget hF; exact h.arrh q k F e' l hq hk

theorem cj_seal {c : Code} (i : Nat) {E : AE} {A' : List AE} (hi : A[i]? = some E) (hA : A.eraseIdx i = A') (h : ∀ σ', σ.le σ' → ArrSealed σ' E → CJ cf c Q σ' env hp A' nh) : CJ cf c Q σ env hp A nh := by
  subst hA
  refine ⟨fun hb a β w ha hw => ?_⟩
  obtain ⟨σ', h1, h2, h3⟩ := hw.sealArr hi
  exact (h σ' h1 h2).run hb a β w ha h3
theorem nj_seal {e : Exit} (i : Nat) {E : AE} {A' : List AE} (hi : A[i]? = some E) (hA : A.eraseIdx i = A') (h : ∀ σ', σ.le σ' → ArrSealed σ' E → NJ cf e Q σ' env hp A' nh) : NJ cf e Q σ env hp A nh := by
  subst hA
  refine ⟨fun hb a β w ha hw => ?_⟩
  obtain ⟨σ', h1, h2, h3⟩ := hw.sealArr hi
  exact (h σ' h1 h2).run hb a β w ha h3

/-- A list of operations without a draw may be looked at world by world. -/
def allFree : List Item → Bool
  | [] => true
  | it :: l => (match it.tag with | .free => true | _ => false) && allFree l

theorem run_by_world {P : Program} : ∀ (l : List Item) (E S : World → Prop) (a : Act), allFree l = true → (∀ w, S w → ∃ E' S' : World → Prop, S' w ∧ RunT P Q l E' S' a) → RunT P Q l E S a
  | [], _, _, _, _, h => fun w hS => by obtain ⟨_, S', h1, h2⟩ := h w hS; exact h2 w h1
  | it :: l, E, S, a, hf, h => by
    simp only [allFree, Bool.and_eq_true] at hf
    simp only [RunT]
    cases htag : it.tag with
    | free =>
      by_cases hw : wantedS it.guard a = true
      · rw [if_pos hw]
        intro w hS
        obtain ⟨E', S', h1, h2⟩ := h w hS
        simp only [RunT, if_pos hw, htag] at h2
        exact h2 w h1
      · rw [if_neg hw]
        refine run_by_world l E S _ hf.2 fun w hS => ?_
        obtain ⟨E', S', h1, h2⟩ := h w hS
        simp only [RunT, if_neg hw] at h2
        exact ⟨E', S', h1, h2⟩
    | _ => rw [htag] at hf; cases hf.1

theorem oj_seal {l : List Item} (i : Nat) {E : AE} {A' : List AE} (hf : allFree l = true) (hi : A[i]? = some E) (hA : A.eraseIdx i = A') (h : ∀ σ', σ.le σ' → ArrSealed σ' E → OJ cf l Q σ' env hp A' nh) : OJ cf l Q σ env hp A nh := by
  subst hA
  refine ⟨fun hb a β ha _ => run_by_world l _ _ a hf fun w hw => ?_⟩
  obtain ⟨σ', h1, h2, h3⟩ := hw.sealArr hi
  exact ⟨_, _, h3, (h σ' h1 h2).run hb a β ha ⟨w, h3⟩⟩

end
end Go.Sy
/- Contracts with arrays handed in and out; local rows become arrays; elements of arrays. No program in sight. -/
namespace Go.Sy

/-! ### Arrays in another order -/

def reA (is : List Nat) (A : List AE) : List AE :=
  match is with
  | [] => []
  | i :: is => match A[i]? with
    | some E => E :: reA is A
    | none => reA is A

def nodupB : List Nat → Bool
  | [] => true
  | i :: is => !(is.any (Nat.beq i)) && nodupB is

theorem reA_get {A : List AE} : ∀ {is : List Nat} {j : Nat} {E : AE}, (reA is A)[j]? = some E → ∃ i ∈ is, A[i]? = some E
  | [], j, E, h => by simp [reA] at h
  | i :: is, j, E, h => by
    simp only [reA] at h
    split at h
    · rename_i F hF
      cases j with
      | zero => simp at h; subst h; exact ⟨i, List.mem_cons_self .., hF⟩
      | succ j =>
        obtain ⟨k, hk, hE⟩ := reA_get (is := is) (by simpa using h)
        exact ⟨k, List.mem_cons_of_mem _ hk, hE⟩
    · obtain ⟨k, hk, hE⟩ := reA_get (is := is) h
      exact ⟨k, List.mem_cons_of_mem _ hk, hE⟩

theorem nodupB_cons {i : Nat} {is : List Nat} (h : nodupB (i :: is) = true) : i ∉ is ∧ nodupB is = true := by
  simp only [nodupB, Bool.and_eq_true, Bool.not_eq_true'] at h
  refine ⟨fun hi => ?_, h.2⟩
  have : is.any (Nat.beq i) = true := List.any_eq_true.2 ⟨i, hi, Nat.beq_refl i⟩
  rw [h.1] at this; cases this

theorem reA_get2 {A : List AE} : ∀ {is : List Nat} {j k : Nat} {E F : AE}, nodupB is = true → j ≠ k → (reA is A)[j]? = some E → (reA is A)[k]? = some F → ∃ p q : Nat, p ≠ q ∧ A[p]? = some E ∧ A[q]? = some F
  | [], j, k, E, F, _, _, h, _ => by simp [reA] at h
  | i :: is, j, k, E, F, hn, hjk, h, h' => by
    obtain ⟨hi, hn⟩ := nodupB_cons hn
    simp only [reA] at h h'
    split at h
    · rename_i G hG
      rw [hG] at h'
      simp only at h'
      cases j with
      | zero =>
        cases k with
        | zero => exact absurd rfl hjk
        | succ k =>
          simp at h; subst h
          obtain ⟨q, hq, hF⟩ := reA_get (is := is) (by simpa using h')
          exact ⟨i, q, fun e => hi (e ▸ hq), hG, hF⟩
      | succ j =>
        cases k with
        | zero =>
          simp at h'; subst h'
          obtain ⟨q, hq, hF⟩ := reA_get (is := is) (by simpa using h)
          exact ⟨q, i, fun e => hi (e ▸ hq), hF, hG⟩
        | succ k => exact reA_get2 (j := j) (k := k) hn (by omega) (by simpa using h) (by simpa using h')
    · rename_i hG
      rw [hG] at h'
      exact reA_get2 hn hjk h h'

section
variable {cf : Cf} {σ : Snap} {hp : HP} {A : List AE} {β : Nat → Addr} {w : World}

theorem StW.reA (h : StW cf σ hp A β w) {is : List Nat} (hn : nodupB is = true) : StW cf σ hp (reA is A) β w := by
  refine ⟨h.os, h.tape, h.output, h.size, h.fr, h.sealed, h.le, h.grow, h.loc, h.ro, h.inj, fun i E hE => ?_, fun i j E F hE hF hij => ?_, fun i j E e cs hE => ?_⟩
  · obtain ⟨k, _, hk⟩ := reA_get hE; exact h.arr k E hk
  · obtain ⟨p, q, hpq, hp', hq'⟩ := reA_get2 hn hij hE hF; exact h.arrd p q E F hp' hq' hpq
  · obtain ⟨k, _, hk⟩ := reA_get hE; exact h.arrh k j E e cs hk

/-- An array that is shortened. -/
def AE.cut (E : AE) (k : Nat) : AE := ⟨E.ao, k, E.cap, E.e, E.sz, E.xs.take (k * E.sz)⟩

theorem ArrOk.cut {E : AE} (h : ArrOk cf σ w E) {k : Nat} (hk : k ≤ E.n) : ArrOk cf σ w (E.cut k) := by
  have hm : k * E.sz ≤ E.n * E.sz := Nat.mul_le_mul_right _ hk
  refine ⟨by simp only [AE.cut, List.length_take, h.1]; exact Nat.min_eq_left hm, ?_⟩
  rcases h.2 with ⟨e1, e2, e3⟩ | ⟨g, cur, h3, h4, h5, h6, h7, h8, h9, h10⟩
  · exact .inl ⟨e1, by simp only [AE.cut]; omega, e3⟩
  · refine .inr ⟨g, cur, h3, h4, by simp only [AE.cut]; omega, h6, h7, ?_, h9, h10⟩
    simp only [AE.cut]
    rw [← h8, List.take_take, Nat.min_eq_left hm]

theorem StW.cutArr (h : StW cf σ hp A β w) {i : Nat} {E : AE} (hi : A[i]? = some E) {k : Nat} (hk : k ≤ E.n) : StW cf σ hp (A.set i (E.cut k)) β w := by
  refine ⟨h.os, h.tape, h.output, h.size, h.fr, h.sealed, h.le, h.grow, h.loc, h.ro, h.inj, fun j F hF => ?_, fun j l F G hF hG hjl => ?_, fun j l F e cs hF => ?_⟩
  · rcases set_get hF with ⟨rfl, rfl⟩ | ⟨hij, hF'⟩
    · exact (h.arr i E hi).cut hk
    · exact h.arr j F hF'
  · have key : ∀ {j : Nat} {F : AE}, (A.set i (E.cut k))[j]? = some F → ∃ F', A[j]? = some F' ∧ F.blk = F'.blk := by
      intro j F hF
      rcases set_get hF with ⟨rfl, rfl⟩ | ⟨_, hF'⟩
      · exact ⟨E, hi, rfl⟩
      · exact ⟨F, hF', rfl⟩
    obtain ⟨F', h1, h2⟩ := key hF
    obtain ⟨G', h3, h4⟩ := key hG
    rw [h2, h4]
    exact h.arrd j l F' G' h1 h3 hjl
  · rcases set_get hF with ⟨rfl, rfl⟩ | ⟨_, hF'⟩
    · exact h.arrh i l E e cs hi
    · exact h.arrh j l F e cs hF'
end

/-! ### The contract -/

def blks (A : List AE) (b : Nat) : Prop := ∃ E ∈ A, E.blk = some b

theorem StW.bare {P : Program} {w0 w : World} {σ0 σ : Snap} {M : Nat → Prop} {N : Nat} {ds : List Deferred} {hp : HP} {A : List AE} {β : Nat → Addr} (h : StW ⟨P, w0, σ0, M, N, ds, none⟩ σ hp A β w) : StW ⟨P, w0, σ0, M, 0, [], none⟩ σ [] A β0 w where
  os := h.os
  tape := h.tape
  output := h.output
  size := h.size
  fr := h.fr
  sealed := h.sealed
  le := h.le
  grow := h.grow
  loc := fun _ _ _ h => by cases h
  ro := fun _ _ h => by cases h
  inj := fun _ _ _ _ _ _ h => by cases h
  arr := fun i E hE => h.arr i E hE
  arrd := h.arrd
  arrh := fun _ _ _ _ _ _ h => by cases h

theorem StW.clothe {P : Program} {w0 w : World} {σ0 σ : Snap} {M : Nat → Prop} {A : List AE} (h : StW ⟨P, w0, σ0, M, 0, [], none⟩ σ [] A β0 w) (N : Nat) (β : Nat → Addr) : StW ⟨P, w0, σ0, M, N, [], none⟩ σ [] A β w where
  os := h.os
  tape := h.tape
  output := h.output
  size := h.size
  fr := h.fr
  sealed := h.sealed
  le := h.le
  grow := h.grow
  loc := fun _ _ _ h => by cases h
  ro := fun _ _ h => by cases h
  inj := fun _ _ _ _ _ _ h => by cases h
  arr := fun i E hE => h.arr i E hE
  arrd := h.arrd
  arrh := fun _ _ _ _ _ _ h => by cases h

def postF (P : Program) (w : World) (σ : Snap) (A : List AE) (Φ : Value → Snap → List AE → Prop) : Value → World → Snap → Prop :=
  fun v w' σ' => ∃ A', Φ v σ' A' ∧ StW ⟨P, w, σ, blks A, 0, [], none⟩ σ' [] A' β0 w'

/-- A FUNCTION'S CONTRACT: the arrays A are handed in, to be changed; those of A' are handed out, none sealed. -/
def FnC (P : Program) (f : FuncId) (args : Array Value) (σ : Snap) (A : List AE) (Φ : Value → Snap → List AE → Prop) : Prop :=
  ∀ w, StW ⟨P, w, σ, blks A, 0, [], none⟩ σ [] A β0 w → CallC P f args w (blks A) σ (postF P w σ A Φ)

theorem FnC.mono {P : Program} {f : FuncId} {args : Array Value} {σ : Snap} {A : List AE} {Φ Ψ : Value → Snap → List AE → Prop} (h : FnC P f args σ A Φ) (hi : ∀ v σ' A', σ.le σ' → Φ v σ' A' → Ψ v σ' A') : FnC P f args σ A Ψ :=
  fun w hw => Calls.mono (h w hw) fun _ _ ⟨v, σ', h1, h2, h3, h4, A', h5, h6⟩ => ⟨v, σ', h1, h2, h3, h4, A', hi v σ' A' h3.le h5, h6⟩

theorem blks_nil : blks [] = fun _ => False := by funext b; simp [blks]

theorem FnC.pure {P : Program} {f : FuncId} {args : Array Value} {σ : Snap} {Φ : Value → Snap → Prop} (h : FnC P f args σ [] (fun v σ' _ => Φ v σ')) : PureC P f args σ Φ := by
  intro w hs
  have := h w (StW.start hs β0)
  rw [blks_nil] at this
  exact Calls.mono this fun _ _ ⟨v, σ', h1, h2, h3, h4, A', h5, h6⟩ => ⟨v, σ', h1, h2, h3, h4, h5⟩

/-- A function begins. -/
theorem enter_fn {P : Program} {f : FuncId} {fn : Func} {c : Code} {args : Array Value} {σ : Snap} {A : List AE} {Φ : Value → Snap → List AE → Prop}
    (hf : P.funcs[f]? = some fn) (hb : fn.body = some c) (svs : List SV) (hargs : args = (svs.map (SV.den β0)).toArray) (hN : svs.length ≤ fn.ntmps) (hlt : ∀ x ∈ svs, x.lt 0)
    (h : ∀ w, CJ ⟨P, w, σ, blks A, fn.ntmps, [], none⟩ c (bodyPost P fn (postR w (blks A) σ (postF P w σ A Φ))) σ (argEnv 0 svs) [] A 0) : FnC P f args σ A Φ :=
  fun w hw => enter hf hb svs β0 [] A 0 hargs hN hlt (fun _ _ _ h => by cases h) (hw.clothe _ _) (h w)

/-- The function returns. -/
theorem nj_fret {P : Program} {w0 : World} {σ0 : Snap} {A0 : List AE} {N : Nat} {T : List (Nat × TI)} (hT : TTok P T) {fn : Func} {Φ : Value → Snap → List AE → Prop} {σ : Snap} {env : Env} {hp : HP} {A : List AE} {nh : Nat}
    {xs : List S1} (hr : resL T env hp fn.results.toList = some xs) (h : ∀ β w, Bd env hp nh → StW ⟨P, w0, σ0, blks A0, N, [], none⟩ σ hp A β w → Φ ((resSV xs).den β) σ A) :
    NJ ⟨P, w0, σ0, blks A0, N, [], none⟩ .ret (bodyPost P fn (postR w0 (blks A0) σ0 (postF P w0 σ0 A0 Φ))) σ env hp A nh :=
  nj_ret hT hr fun β w hb hw => ⟨A, h β w hb hw, hw.bare⟩
theorem nj_fend {P : Program} {w0 : World} {σ0 : Snap} {A0 : List AE} {N : Nat} {T : List (Nat × TI)} (hT : TTok P T) {fn : Func} {Φ : Value → Snap → List AE → Prop} {σ : Snap} {env : Env} {hp : HP} {A : List AE} {nh : Nat}
    {xs : List S1} (hr : resL T env hp fn.results.toList = some xs) (h : ∀ β w, Bd env hp nh → StW ⟨P, w0, σ0, blks A0, N, [], none⟩ σ hp A β w → Φ ((resSV xs).den β) σ A) :
    NJ ⟨P, w0, σ0, blks A0, N, [], none⟩ .normal (bodyPost P fn (postR w0 (blks A0) σ0 (postF P w0 σ0 A0 Φ))) σ env hp A nh :=
  nj_end hT hr fun β w hb hw => ⟨A, h β w hb hw, hw.bare⟩

section
variable {cf : Cf} {Q : Exit → Act → World → Prop} {σ : Snap} {env : Env} {hp : HP} {A : List AE} {nh : Nat} {it : Item} {rest : List Item}

theorem nj_re {e : Exit} (is : List Nat) {A' : List AE} (hA : reA is A = A') (hn : nodupB is = true) (h : NJ cf e Q σ env hp A' nh) : NJ cf e Q σ env hp A nh := by
  subst hA
  exact ⟨fun hb a β w ha hw => h.run hb a β w ha (hw.reA hn)⟩
theorem cj_re {c : Code} (is : List Nat) {A' : List AE} (hA : reA is A = A') (hn : nodupB is = true) (h : CJ cf c Q σ env hp A' nh) : CJ cf c Q σ env hp A nh := by
  subst hA
  exact ⟨fun hb a β w ha hw => h.run hb a β w ha (hw.reA hn)⟩

theorem cj_cutArr {c : Code} (i k : Nat) {E : AE} {A' : List AE} (hi : A[i]? = some E) (hk : k ≤ E.n) (hA : A.set i (E.cut k) = A') (h : CJ cf c Q σ env hp A' nh) : CJ cf c Q σ env hp A nh := by
  subst hA
  exact ⟨fun hb a β w ha hw => h.run hb a β w ha (hw.cutArr hi hk)⟩
theorem oj_cutArr {l : List Item} (i k : Nat) {E : AE} {A' : List AE} (hf : allFree l = true) (hi : A[i]? = some E) (hk : k ≤ E.n) (hA : A.set i (E.cut k) = A') (h : OJ cf l Q σ env hp A' nh) : OJ cf l Q σ env hp A nh := by
  subst hA
  refine ⟨fun hb a β ha _ => run_by_world l _ _ a hf fun w hw => ?_⟩
  exact ⟨_, _, hw.cutArr hi hk, h.run hb a β ha ⟨w, hw.cutArr hi hk⟩⟩

theorem Snap.none_of_le {σ σ' : Snap} (h : σ.le σ') {b : Nat} (hb : σ' b = none) : σ b = none := by
  cases hb' : σ b with
  | none => rfl
  | some o => rw [h b o hb'] at hb; cases hb

/-- What is kept through a call that is handed A0 and hands out A1. -/
theorem StW.through {β : Nat → Addr} {w w' : World} {σ' : Snap} {A0 Ar A1 : List AE} (h : StW cf σ hp (A0 ++ Ar) β w) (h' : StW ⟨cf.P, w, σ, blks A0, 0, [], none⟩ σ' [] A1 β0 w') : StW cf σ' hp (A1 ++ Ar) β w' := by
  have hin0 : ∀ {E}, E ∈ A0 → ∃ i, (A0 ++ Ar)[i]? = some E ∧ i < A0.length := by
    intro E hE
    obtain ⟨i, hi⟩ := List.getElem?_of_mem hE
    have hlt := (List.getElem?_eq_some_iff.1 hi).1
    exact ⟨i, by rw [List.getElem?_append_left hlt]; exact hi, hlt⟩
  have hblk : ∀ {b}, blks A0 b → ∃ i E, (A0 ++ Ar)[i]? = some E ∧ E.blk = some b ∧ i < A0.length := by
    rintro b ⟨E, hE, hb⟩
    obtain ⟨i, hi, hlt⟩ := hin0 hE
    exact ⟨i, E, hi, hb, hlt⟩
  have hown : ∀ {b}, blks A0 b → Own cf b := by
    intro b hb
    obtain ⟨i, E, hi, hE, _⟩ := hblk hb
    exact ((h.arr i E hi).lt hE).2.2
  have hlt0 : ∀ {b}, blks A0 b → b < w.heap.size := by
    intro b hb
    obtain ⟨i, E, hi, hE, _⟩ := hblk hb
    exact ((h.arr i E hi).lt hE).1
  have hold : ∀ b, b < w.heap.size → ¬ blks A0 b → w'.heap[b]? = w.heap[b]? := h'.fr
  have hσ : ∀ b, b < w.heap.size → ¬ blks A0 b → σ b = none → σ' b = none := by
    intro b hb hnb hn
    cases hb' : σ' b with
    | none => rfl
    | some o =>
      rcases h'.grow b (by rw [hb']; simp) with h1 | h1 | h1
      · exact absurd hn h1
      · have : w.heap.size ≤ b := h1
        omega
      · exact absurd h1 hnb
  have hold' : ∀ {b}, Own ⟨cf.P, w, σ, blks A0, 0, [], none⟩ b → Own cf b := by
    rintro b (h1 | h1)
    · exact .inl (Nat.le_trans h.size h1)
    · exact hown h1
  have hget : ∀ {j : Nat} {E : AE}, (A1 ++ Ar)[j]? = some E → (j < A1.length ∧ A1[j]? = some E) ∨ (A1.length ≤ j ∧ (A0 ++ Ar)[A0.length + (j - A1.length)]? = some E) := by
    intro j E hj
    by_cases hlt : j < A1.length
    · rw [List.getElem?_append_left hlt] at hj; exact .inl ⟨hlt, hj⟩
    · rw [List.getElem?_append_right (by omega)] at hj
      refine .inr ⟨by omega, ?_⟩
      rw [List.getElem?_append_right (by omega), Nat.add_sub_cancel_left]; exact hj
  -- a block that was handed out is none of those that were kept
  have hnew : ∀ {E : AE} {j : Nat} {b : Nat}, A1[j]? = some E → E.blk = some b → w.heap.size ≤ b ∨ blks A0 b := by
    intro E j b hE hb
    rcases ((h'.arr j E hE).lt hb).2.2 with h1 | h1
    · exact .inl h1
    · exact .inr h1
  have hkept : ∀ {F : AE} {k : Nat} {b : Nat}, A0.length ≤ k → (A0 ++ Ar)[k]? = some F → F.blk = some b → b < w.heap.size ∧ ¬ blks A0 b := by
    intro F k b hk hF hb
    refine ⟨((h.arr k F hF).lt hb).1, fun hc => ?_⟩
    obtain ⟨i, E, hi, hE, hlt⟩ := hblk hc
    exact h.arrd i k E F hi hF (by omega) b hE hb
  refine ⟨h'.os.trans h.os, h'.tape.trans h.tape, h'.output.trans h.output, Nat.le_trans h.size h'.size, fun b hb hm => ?_, h'.sealed, fun b o hb => h'.le b o (h.le b o hb), fun b hb => ?_, fun i e cs hi => ?_, fun i cs hi j c hc => Snap.le.cell h'.le (h.ro i cs hi j c hc), h.inj, fun i E hE => ?_,
    fun i j E F hE hF hij => ?_, fun i j E e cs hE hj => ?_⟩
  · have hnb : ¬ blks A0 b := fun hc => by
      rcases hown hc with h1 | h1
      · omega
      · exact hm h1
    rw [hold b (Nat.lt_of_lt_of_le hb h.size) hnb]; exact h.fr b hb hm
  · rcases h'.grow b hb with h1 | h1
    · exact h.grow b h1
    · exact .inr (hold' h1)
  · obtain ⟨h1, h2, h3, h4⟩ := h.loc i e cs hi
    have hlt := (Array.getElem?_eq_some_iff.1 h2).1
    have hnb : ¬ blks A0 (β i).block := fun hc => by
      obtain ⟨k, E, hk, hE, _⟩ := hblk hc
      exact h.arrh k i E e cs hk hi hE
    exact ⟨h1, by rw [hold _ hlt hnb]; exact h2, hσ _ hlt hnb h3, h4⟩
  · rcases hget hE with ⟨_, hE'⟩ | ⟨hle, hE'⟩
    · obtain ⟨h1, h2⟩ := h'.arr i E hE'
      refine ⟨h1, h2.imp id ?_⟩
      rintro ⟨g, cur, h3, h4, h5, h6, h7, h8, h9, h10⟩
      exact ⟨g, cur, h3, h4, h5, h6, h7, h8, h9, hold' h10⟩
    · obtain ⟨h1, h2⟩ := h.arr _ E hE'
      refine ⟨h1, h2.imp id ?_⟩
      rintro ⟨g, cur, h3, h4, h5, h6, h7, h8, h9, h10⟩
      obtain ⟨hlt, hnb⟩ := hkept (by omega) hE' (b := g) (by simp [AE.blk, h3])
      exact ⟨g, cur, h3, by rw [hold g hlt hnb]; exact h4, h5, h6, h7, h8, hσ g hlt hnb h9, h10⟩
  · intro b hEb hFb
    rcases hget hE with ⟨hi, hE'⟩ | ⟨hi, hE'⟩ <;> rcases hget hF with ⟨hj, hF'⟩ | ⟨hj, hF'⟩
    · exact h'.arrd i j E F hE' hF' hij b hEb hFb
    · obtain ⟨hlt, hnb⟩ := hkept (by omega) hF' hFb
      rcases hnew hE' hEb with h1 | h1
      · omega
      · exact hnb h1
    · obtain ⟨hlt, hnb⟩ := hkept (by omega) hE' hEb
      rcases hnew hF' hFb with h1 | h1
      · omega
      · exact hnb h1
    · exact h.arrd _ _ E F hE' hF' (by omega) b hEb hFb
  · intro hb
    obtain ⟨h1, h2, h3, h4⟩ := h.loc j e cs hj
    have hlt := (Array.getElem?_eq_some_iff.1 h2).1
    rcases hget hE with ⟨_, hE'⟩ | ⟨_, hE'⟩
    · rcases hnew hE' hb with h5 | h5
      · omega
      · obtain ⟨k, G, hk, hG, _⟩ := hblk h5
        exact h.arrh k j G e cs hk hj hG
    · exact h.arrh _ j E e cs hE' hj hb

/-- The start of such a call. -/
theorem StW.handIn {β : Nat → Addr} {w : World} {A0 Ar : List AE} (h : StW cf σ hp (A0 ++ Ar) β w) : StW ⟨cf.P, w, σ, blks A0, 0, [], none⟩ σ [] A0 β0 w where
  os := rfl
  tape := rfl
  output := rfl
  size := Nat.le_refl _
  fr := fun _ _ _ => rfl
  sealed := h.sealed
  le := fun _ _ h => h
  grow := fun _ h => .inl h
  loc := fun _ _ _ h => by cases h
  ro := fun _ _ h => by cases h
  inj := fun _ _ _ _ _ _ h => by cases h
  arr := fun i E hE => by
    have hlt := (List.getElem?_eq_some_iff.1 hE).1
    obtain ⟨h1, h2⟩ := h.arr i E (by rw [List.getElem?_append_left hlt]; exact hE)
    refine ⟨h1, h2.imp id ?_⟩
    rintro ⟨g, cur, h3, h4, h5, h6, h7, h8, h9, h10⟩
    exact ⟨g, cur, h3, h4, h5, h6, h7, h8, h9, .inr ⟨E, List.mem_of_getElem? hE, by simp [AE.blk, h3]⟩⟩
  arrd := fun i j E F hE hF hij => by
    have hi := (List.getElem?_eq_some_iff.1 hE).1
    have hj := (List.getElem?_eq_some_iff.1 hF).1
    exact h.arrd i j E F (by rw [List.getElem?_append_left hi]; exact hE) (by rw [List.getElem?_append_left hj]; exact hF) hij
  arrh := fun _ _ _ _ _ _ h => by cases h

/-- A CALL: arrays are handed in, arrays come back. -/
theorem oj_call_fn {d : Nat} {f : FuncId} {ys : List SV} {Φ : Value → Snap → List AE → Prop} (is : List Nat) {A0 Ar : List AE} (hA : reA is A = A0 ++ Ar) (hn : nodupB is = true)
    (hc : callee env it.o.op = some (f, ys)) (hd : it.o.dst = some d) (hg : guardVal it.guard env = some true)
    (hN : Nat.blt d cf.N = true) (htag : canSink it.tag = true) (hcall : ∀ args w, (callFunc f args).run cf.P w = .ok (.enter f args) w) (hlt : ∀ y ∈ ys, y.lt 0)
    (hC : FnC cf.P f (ys.map (SV.den β0)).toArray σ A0 Φ)
    (k : ∀ v σ' A', σ.le σ' → Φ v σ' A' → ∃ y : SV, y.lt 0 ∧ y.den β0 = v ∧ OJ cf rest Q σ' ((d, y) :: env) hp (A' ++ Ar) nh) : OJ cf (it :: rest) Q σ env hp A nh := by
  refine ⟨fun hb a β ha hex => ?_⟩
  have hN' : d < cf.N := by simpa [Nat.blt_eq] using hN
  have den0 : ∀ {y : SV}, y.lt 0 → y.den β = y.den β0 := fun hy => SV.den_congr (n := 0) (fun i hi => by omega) hy
  have hargs : (ys.map (SV.den β)).toArray = (ys.map (SV.den β0)).toArray := by
    rw [List.map_congr_left fun y hy => den0 (hlt y hy)]
  have key : ∀ w, StW cf σ hp A β w → ∀ Q', it.o.wq cf.P a w (fun a' w' => ∃ E' S' : World → Prop, S' w' ∧ (∀ x, S' x → E' x) ∧ RunT cf.P Q rest E' S' a') Q' := by
    intro w hw Q'
    have hw2 : StW cf σ hp (A0 ++ Ar) β w := by rw [← hA]; exact hw.reA hn
    unfold Oper.wq
    rw [callee_ok ha hc hcall]
    simp only [Oper.uponIn]
    rw [hargs]
    refine ⟨fun h => (by cases h), CallsIn.mono (callsIn_FR.2 (hC w hw2.handIn)) fun e w' ⟨v, σ', he, h1, h2, h3, A', h4, h5⟩ => ?_⟩
    subst he
    obtain ⟨y, hy, hyv, hk⟩ := k v σ' A' h2.le h4
    have hw' := hw2.through h5
    refine ⟨_, _, hw', fun _ h => h, ?_⟩
    have := hk.run (hb.put (SV.lt_mono (Nat.zero_le _) hy) d) (a.put (some d) (y.den β)) β (ha.put hN' y) ⟨_, hw'⟩
    rw [hd, ← hyv, ← den0 hy]
    exact this
  simp only [RunT]
  rw [if_pos (guardVal_ok ha hg)]
  cases htag' : it.tag with
  | pure => rw [htag'] at htag; cases htag
  | quiet => rw [htag'] at htag; cases htag
  | keep => rw [htag'] at htag; cases htag
  | sink => exact fun w hw => key w hw _
  | free => exact fun w hw => key w hw _

/-- The same, where no slot is written. -/
theorem oj_call_fn_void {f : FuncId} {ys : List SV} {Φ : Value → Snap → List AE → Prop} (is : List Nat) {A0 Ar : List AE} (hA : reA is A = A0 ++ Ar) (hn : nodupB is = true)
    (hc : callee env it.o.op = some (f, ys)) (hd : it.o.dst = none) (hg : guardVal it.guard env = some true)
    (htag : canSink it.tag = true) (hcall : ∀ args w, (callFunc f args).run cf.P w = .ok (.enter f args) w) (hlt : ∀ y ∈ ys, y.lt 0)
    (hC : FnC cf.P f (ys.map (SV.den β0)).toArray σ A0 Φ)
    (k : ∀ v σ' A', σ.le σ' → Φ v σ' A' → OJ cf rest Q σ' env hp (A' ++ Ar) nh) : OJ cf (it :: rest) Q σ env hp A nh := by
  refine ⟨fun hb a β ha hex => ?_⟩
  have den0 : ∀ {y : SV}, y.lt 0 → y.den β = y.den β0 := fun hy => SV.den_congr (n := 0) (fun i hi => by omega) hy
  have hargs : (ys.map (SV.den β)).toArray = (ys.map (SV.den β0)).toArray := by
    rw [List.map_congr_left fun y hy => den0 (hlt y hy)]
  have key : ∀ w, StW cf σ hp A β w → ∀ Q', it.o.wq cf.P a w (fun a' w' => ∃ E' S' : World → Prop, S' w' ∧ (∀ x, S' x → E' x) ∧ RunT cf.P Q rest E' S' a') Q' := by
    intro w hw Q'
    have hw2 : StW cf σ hp (A0 ++ Ar) β w := by rw [← hA]; exact hw.reA hn
    unfold Oper.wq
    rw [callee_ok ha hc hcall]
    simp only [Oper.uponIn]
    rw [hargs]
    refine ⟨fun h => (by cases h), CallsIn.mono (callsIn_FR.2 (hC w hw2.handIn)) fun e w' ⟨v, σ', he, h1, h2, h3, A', h4, h5⟩ => ?_⟩
    subst he
    have hw' := hw2.through h5
    refine ⟨_, _, hw', fun _ h => h, ?_⟩
    have := (k v σ' A' h2.le h4).run hb a β ha ⟨_, hw'⟩
    rw [hd]
    exact this
  simp only [RunT]
  rw [if_pos (guardVal_ok ha hg)]
  cases htag' : it.tag with
  | pure => rw [htag'] at htag; cases htag
  | quiet => rw [htag'] at htag; cases htag
  | keep => rw [htag'] at htag; cases htag
  | sink => exact fun w hw => key w hw _
  | free => exact fun w hw => key w hw _

end
end Go.Sy
/- A local row becomes an array of the call's own; loads and stores in arrays; pieces of slices and strings. No program in sight. -/
namespace Go.Sy

/-! ### A known row's address, told -/

def concP (h g : Nat) : PT → PT
  | .loc i o => bif Nat.beq i h then .val (.pointer (some ⟨g, o, none⟩)) else .loc i o
  | .val x => .val x
def conc (h g : Nat) : AT → AT
  | .p i o => bif Nat.beq i h then .v (.pointer (some ⟨g, o, none⟩)) else .p i o
  | .sl i n => bif Nat.beq i h then .v (.slice (some ⟨g, 0, none⟩) n n) else .sl i n
  | .fn f c => .fn f (c.map (concP h g))
  | x => x
def concS1 (h g : Nat) : S1 → S1
  | .a x => .a (conc h g x)
  | .agg cs => .agg (cs.map (conc h g))
def concS (h g : Nat) : SV → SV
  | .a x => .a (conc h g x)
  | .agg cs => .agg (cs.map (conc h g))
  | .tup vs => .tup (vs.map (concS1 h g))
def concE (h g : Nat) : Env → Env
  | [] => []
  | (i, x) :: l => (i, concS h g x) :: concE h g l
/-- The rows but one. -/
def HP.del (h : Nat) : HP → HP
  | [] => []
  | (i, k, cs) :: l => bif Nat.beq i h then HP.del h l else (i, k, cs) :: HP.del h l

section
variable {h g : Nat} {β : Nat → Addr}

theorem concP_den (hβ : β h = ⟨g, 0, none⟩) (x : PT) : (concP h g x).den β = x.den β := by
  cases x with
  | loc i o =>
    simp only [concP]
    cases hb : Nat.beq i h with
    | false => rfl
    | true => have := Nat.eq_of_beq_eq_true hb; subst this; simp only [cond_true, PT.den, hβ, add0]
  | val x => rfl
theorem conc_den (hβ : β h = ⟨g, 0, none⟩) (x : AT) : (conc h g x).den β = x.den β := by
  cases x with
  | p i o =>
    simp only [conc]
    cases hb : Nat.beq i h with
    | false => rfl
    | true => have := Nat.eq_of_beq_eq_true hb; subst this; simp only [cond_true, AT.den, hβ, add0]
  | sl i n =>
    simp only [conc]
    cases hb : Nat.beq i h with
    | false => rfl
    | true => have := Nat.eq_of_beq_eq_true hb; subst this; simp only [cond_true, AT.den, hβ]
  | fn f c =>
    simp only [conc, AT.den, List.map_map]
    have : (PT.den β ∘ concP h g) = PT.den β := by funext x; exact concP_den hβ x
    rw [this]
  | _ => rfl
theorem concL_den (hβ : β h = ⟨g, 0, none⟩) (l : List AT) : (l.map (conc h g)).map (AT.den β) = l.map (AT.den β) := by
  rw [List.map_map]
  have : (AT.den β ∘ conc h g) = AT.den β := by funext x; exact conc_den hβ x
  rw [this]
theorem concS1_den (hβ : β h = ⟨g, 0, none⟩) (x : S1) : (concS1 h g x).den β = x.den β := by
  cases x with
  | a x => exact conc_den hβ x
  | agg l => simp only [concS1, S1.den, concL_den hβ]
theorem concS_den (hβ : β h = ⟨g, 0, none⟩) (x : SV) : (concS h g x).den β = x.den β := by
  cases x with
  | a x => exact conc_den hβ x
  | agg l => simp only [concS, SV.den, concL_den hβ]
  | tup vs =>
    simp only [concS, SV.den, List.map_map]
    have : (S1.den β ∘ concS1 h g) = S1.den β := by funext x; exact concS1_den hβ x
    rw [this]

theorem concP_lt {n : Nat} {x : PT} (hx : x.lt n) : (concP h g x).lt n := by
  cases x with
  | loc i o => simp only [concP]; cases Nat.beq i h <;> first | exact hx | trivial
  | val x => trivial
theorem conc_lt {n : Nat} {x : AT} (hx : x.lt n) : (conc h g x).lt n := by
  cases x with
  | p i o => simp only [conc]; cases Nat.beq i h <;> first | exact hx | trivial
  | sl i m => simp only [conc]; cases Nat.beq i h <;> first | exact hx | trivial
  | fn f c =>
    intro y hy
    obtain ⟨z, hz, rfl⟩ := List.mem_map.1 hy
    exact concP_lt (hx z hz)
  | _ => trivial
theorem concS1_lt {n : Nat} {x : S1} (hx : x.lt n) : (concS1 h g x).lt n := by
  cases x with
  | a x => exact conc_lt (x := x) hx
  | agg l =>
    intro y hy
    obtain ⟨z, hz, rfl⟩ := List.mem_map.1 hy
    exact conc_lt (hx z hz)
theorem concS_lt {n : Nat} {x : SV} (hx : x.lt n) : (concS h g x).lt n := by
  cases x with
  | a x => exact conc_lt (x := x) hx
  | agg l =>
    intro y hy
    obtain ⟨z, hz, rfl⟩ := List.mem_map.1 hy
    exact conc_lt (hx z hz)
  | tup vs =>
    intro y hy
    obtain ⟨z, hz, rfl⟩ := List.mem_map.1 hy
    exact concS1_lt (hx z hz)

theorem concE_get : ∀ {env : Env} {i : Nat} {x : SV}, (concE h g env).get i = some x → ∃ y, env.get i = some y ∧ x = concS h g y
  | [], _, _, hx => by cases hx
  | (j, y) :: l, i, x, hx => by
    simp only [concE] at hx
    rw [Env.get_cons] at hx ⊢
    by_cases hji : j = i
    · rw [if_pos hji] at hx ⊢; injection hx with hx; exact ⟨y, rfl, hx.symm⟩
    · rw [if_neg hji] at hx ⊢; exact concE_get hx

theorem HP.del_get {hp : HP} {i : Nat} : (HP.del h hp).get i = if i = h then none else hp.get i := by
  induction hp with
  | nil => simp [HP.del, HP.get]
  | cons e l ih =>
    obtain ⟨j, k, cs⟩ := e
    simp only [HP.del]
    cases hb : Nat.beq j h with
    | true =>
      have := Nat.eq_of_beq_eq_true hb
      subst this
      simp only [cond_true]
      rw [ih, HP.get_cons]
      by_cases hij : i = j
      · rw [if_pos hij, if_pos hij]
      · rw [if_neg hij, if_neg hij, if_neg (fun e => hij e.symm)]
    | false =>
      have hne : j ≠ h := fun e => by subst e; simp at hb
      simp only [cond_false]
      rw [HP.get_cons, HP.get_cons, ih]
      by_cases hij : j = i
      · rw [if_pos hij, if_neg (by omega), if_pos hij]
      · rw [if_neg hij, if_neg hij]
theorem HP.del_some {hp : HP} {i : Nat} {x : HK × List AT} (hx : (HP.del h hp).get i = some x) : i ≠ h ∧ hp.get i = some x := by
  rw [HP.del_get] at hx
  by_cases hih : i = h
  · rw [if_pos hih] at hx; cases hx
  · rw [if_neg hih] at hx; exact ⟨hih, hx⟩
end

section
variable {cf : Cf} {σ : Snap} {hp : HP} {A : List AE} {β : Nat → Addr} {w : World}

theorem append_get {A : List AE} {E F : AE} {i : Nat} (h : (A ++ [E])[i]? = some F) : (i < A.length ∧ A[i]? = some F) ∨ (i = A.length ∧ F = E) := by
  by_cases hlt : i < A.length
  · rw [List.getElem?_append_left hlt] at h; exact .inl ⟨hlt, h⟩
  · rw [List.getElem?_append_right (by omega)] at h
    have h0 : i - A.length = 0 := by
      cases hq : i - A.length with
      | zero => rfl
      | succ m => rw [hq] at h; simp at h
    rw [h0] at h
    simp at h
    exact .inr ⟨by omega, h.symm⟩
theorem append_get_old {A : List AE} {E F : AE} {i : Nat} (h : A[i]? = some F) : (A ++ [E])[i]? = some F := by
  rw [List.getElem?_append_left (List.getElem?_eq_some_iff.1 h).1]; exact h
theorem append_get_new {A : List AE} {E : AE} : (A ++ [E])[A.length]? = some E := by
  rw [List.getElem?_append_right (Nat.le_refl _), Nat.sub_self]; rfl

/-- A row that is the call's own is an array of its own. -/
theorem StW.own {h : Nat} {e : TypeId} {cs : List AT} (hrow : hp.get h = some (.loc e, cs)) (hcs : ∀ c ∈ cs, c.lt 0) {g : Nat} (hβ : β h = ⟨g, 0, none⟩) {n sz : Nat} (hlen : cs.length = n * sz) (hn : n ≤ maxLen) :
    StW cf σ hp A β w ↔ StW cf σ (HP.del h hp) (A ++ [⟨some ⟨g, 0, none⟩, n, n, e, sz, cs.map AT.val⟩]) β w := by
  have hval : cs.map AT.val = cs.map (AT.den β) := List.map_congr_left fun c hc => (AT.den_val (hcs c hc) β).symm
  have hget' : ∀ {i : Nat} {x : HK × List AT}, i ≠ h → hp.get i = some x → (HP.del h hp).get i = some x := by
    intro i x hne hi
    rw [HP.del_get, if_neg hne]; exact hi
  constructor
  · intro H
    obtain ⟨l1, l2, l3, l4⟩ := H.loc h e cs hrow
    have hgb : (β h).block = g := by rw [hβ]
    refine ⟨H.os, H.tape, H.output, H.size, H.fr, H.sealed, H.le, H.grow, fun i e' l hi => H.loc i e' l (HP.del_some hi).2, fun i l hi => H.ro i l (HP.del_some hi).2, fun i j e1 e2 c1 c2 hi hj => H.inj i j e1 e2 c1 c2 (HP.del_some hi).2 (HP.del_some hj).2,
      fun i E hE => ?_, fun i j E F hE hF hij b hb => ?_, fun i j E e' l hE hj => ?_⟩
    · rcases append_get hE with ⟨_, hE'⟩ | ⟨_, rfl⟩
      · exact H.arr i E hE'
      · refine ⟨by simp [hlen], .inr ⟨g, _, rfl, by rw [← hgb]; exact l2, Nat.le_refl _, hn, by simp [hlen], ?_, by rw [← hgb]; exact l3, by rw [← hgb]; exact l4⟩⟩
        simp only [hval]
        rw [← hlen]
        exact List.take_of_length_le (by simp)
    · rcases append_get hE with ⟨_, hE'⟩ | ⟨hi', rfl⟩ <;> rcases append_get hF with ⟨_, hF'⟩ | ⟨hj', rfl⟩
      · exact H.arrd i j E F hE' hF' hij b hb
      · simp only [AE.blk, Option.map_some]
        have := H.arrh i h E e cs hE' hrow
        rw [hgb] at this
        rw [hb] at this
        exact fun hc => this hc.symm
      · simp only [AE.blk, Option.map_some, Option.some.injEq] at hb
        have := H.arrh j h F e cs hF' hrow
        rw [hgb, hb] at this
        exact this
      · omega
    · obtain ⟨hjh, hj'⟩ := HP.del_some hj
      rcases append_get hE with ⟨_, hE'⟩ | ⟨_, rfl⟩
      · exact H.arrh i j E e' l hE' hj'
      · simp only [AE.blk, Option.map_some, ne_eq, Option.some.injEq]
        intro hc
        exact hjh (H.inj j h e' e l cs hj' hrow (by rw [hgb]; exact hc.symm))
  · intro H
    have hnew := H.arr A.length _ append_get_new
    have hrowW : w.heap[g]? = some (.cells (cs.map (AT.den β)).toArray e (0, 0)) ∧ σ g = none ∧ Own cf g := by
      rcases hnew.2 with h1 | ⟨g', cur, h3, h4, h5, h6, h7, h8, h9, h10⟩
      · cases h1.1
      · injection h3 with h3
        simp only [Addr.mk.injEq, and_true] at h3
        subst h3
        refine ⟨?_, h9, h10⟩
        rw [h4]
        congr 2
        simp only at h7 h8
        rw [← h7, ← Array.length_toList, List.take_length, hval] at h8
        rw [← h8]
    have hsplit : ∀ {i : Nat} {k : HK} {l : List AT}, hp.get i = some (k, l) → (i = h ∧ k = .loc e ∧ l = cs) ∨ (i ≠ h ∧ (HP.del h hp).get i = some (k, l)) := by
      intro i k l hi
      by_cases hih : i = h
      · subst hih
        rw [hrow] at hi
        injection hi with hi
        simp only [Prod.mk.injEq] at hi
        exact .inl ⟨rfl, hi.1.symm, hi.2.symm⟩
      · exact .inr ⟨hih, hget' hih hi⟩
    refine ⟨H.os, H.tape, H.output, H.size, H.fr, H.sealed, H.le, H.grow, fun i e' l hi => ?_, fun i l hi => ?_, fun i j e1 e2 c1 c2 hi hj hij => ?_, fun i E hE => H.arr i E (append_get_old hE), fun i j E F hE hF => H.arrd i j E F (append_get_old hE) (append_get_old hF), fun i j E e' l hE hj => ?_⟩
    · rcases hsplit hi with ⟨rfl, hk, rfl⟩ | ⟨hne, hi'⟩
      · injection hk with hk
        subst hk
        rw [hβ]
        exact ⟨rfl, hrowW⟩
      · exact H.loc i e' l hi'
    · rcases hsplit hi with ⟨rfl, hk, rfl⟩ | ⟨hne, hi'⟩
      · cases hk
      · exact H.ro i l hi'
    · rcases hsplit hi with ⟨rfl, _, rfl⟩ | ⟨hne, hi'⟩ <;> rcases hsplit hj with ⟨rfl, _, rfl⟩ | ⟨hne', hj'⟩
      · rfl
      · exact absurd (by simp [AE.blk]; rw [← hij, hβ]) (H.arrh A.length j _ e2 c2 append_get_new hj')
      · exact absurd (by simp [AE.blk]; rw [hij, hβ]) (H.arrh A.length i _ e1 c1 append_get_new hi')
      · exact H.inj i j e1 e2 c1 c2 hi' hj' hij
    · rcases hsplit hj with ⟨rfl, _, rfl⟩ | ⟨hne, hj'⟩
      · rw [hβ]
        intro hc
        have hlt := (List.getElem?_eq_some_iff.1 hE).1
        exact H.arrd i A.length E _ (append_get_old hE) append_get_new (by omega) g hc (by simp [AE.blk])
      · exact H.arrh i j E e' l (append_get_old hE) hj'
end

section
variable {cf : Cf} {Q : Exit → Act → World → Prop} {σ : Snap} {env : Env} {hp : HP} {A : List AE} {nh : Nat} {it : Item} {rest : List Item}

theorem StA.conc {β : Nat → Addr} {a : Act} {h g : Nat} (hβ : β h = ⟨g, 0, none⟩) (ha : StA cf env β a) : StA cf (concE h g env) β a := by
  refine ⟨ha.size, ha.defers, fun i x hx => ?_⟩
  obtain ⟨y, hy, rfl⟩ := concE_get hx
  rw [concS_den hβ]; exact ha.env i y hy
theorem Bd.conc {h g : Nat} (hb : Bd env hp nh) : Bd (concE h g env) (HP.del h hp) nh := by
  refine ⟨fun i x hx => ?_, fun i k cs hi => hb.hp i k cs (HP.del_some hi).2⟩
  obtain ⟨y, hy, rfl⟩ := concE_get hx
  exact concS_lt (hb.env i y hy)

theorem oj_own {l : List Item} (h : Nat) {e : TypeId} {cs : List AT} (n sz : Nat) (hrow : hp.get h = some (.loc e, cs)) (hcs : ∀ c ∈ cs, c.lt 0) (hlen : cs.length = n * sz) (hn : n ≤ 9223372036854775807)
    (k : ∀ g, OJ cf l Q σ (concE h g env) (HP.del h hp) (A ++ [⟨some ⟨g, 0, none⟩, n, n, e, sz, cs.map AT.val⟩]) nh) : OJ cf l Q σ env hp A nh := by
  refine ⟨fun hb a β ha hex => ?_⟩
  obtain ⟨w, hw⟩ := hex
  have hβ : β h = ⟨(β h).block, 0, none⟩ := (hw.loc h e cs hrow).1
  have e1 : (fun w => StW cf σ hp A β w) = fun w => StW cf σ (HP.del h hp) (A ++ [⟨some ⟨(β h).block, 0, none⟩, n, n, e, sz, cs.map AT.val⟩]) β w := by
    funext w; exact propext (StW.own hrow hcs hβ hlen (by simp only [maxLen]; exact hn))
  rw [e1]
  exact (k _).run hb.conc a β (ha.conc hβ) ⟨w, (congrFun e1 w) ▸ hw⟩
theorem cj_own {c : Code} (h : Nat) {e : TypeId} {cs : List AT} (n sz : Nat) (hrow : hp.get h = some (.loc e, cs)) (hcs : ∀ c ∈ cs, c.lt 0) (hlen : cs.length = n * sz) (hn : n ≤ 9223372036854775807)
    (k : ∀ g, CJ cf c Q σ (concE h g env) (HP.del h hp) (A ++ [⟨some ⟨g, 0, none⟩, n, n, e, sz, cs.map AT.val⟩]) nh) : CJ cf c Q σ env hp A nh := by
  refine ⟨fun hb a β w ha hw => ?_⟩
  have hβ : β h = ⟨(β h).block, 0, none⟩ := (hw.loc h e cs hrow).1
  exact (k _).run hb.conc a β w (ha.conc hβ) ((StW.own hrow hcs hβ hlen (by simp only [maxLen]; exact hn)).1 hw)
theorem nj_own {ex : Exit} (h : Nat) {e : TypeId} {cs : List AT} (n sz : Nat) (hrow : hp.get h = some (.loc e, cs)) (hcs : ∀ c ∈ cs, c.lt 0) (hlen : cs.length = n * sz) (hn : n ≤ 9223372036854775807)
    (k : ∀ g, NJ cf ex Q σ (concE h g env) (HP.del h hp) (A ++ [⟨some ⟨g, 0, none⟩, n, n, e, sz, cs.map AT.val⟩]) nh) : NJ cf ex Q σ env hp A nh := by
  refine ⟨fun hb a β w ha hw => ?_⟩
  have hβ : β h = ⟨(β h).block, 0, none⟩ := (hw.loc h e cs hrow).1
  exact (k _).run hb.conc a β w (ha.conc hβ) ((StW.own hrow hcs hβ hlen (by simp only [maxLen]; exact hn)).1 hw)

/-- An array that is not empty stands somewhere. -/
theorem ArrOk.some {w : World} {E : AE} (h : ArrOk cf σ w E) (hn : 0 < E.cap) : ∃ g, E.ao = .some ⟨g, 0, none⟩ := by
  rcases h.2 with h1 | ⟨g, cur, h3, _⟩
  · omega
  · exact ⟨g, h3⟩
theorem ArrOk.ncap {w : World} {E : AE} (h : ArrOk cf σ w E) : E.n ≤ E.cap := by
  rcases h.2 with h1 | ⟨g, cur, h3, h4, h5, _⟩
  · omega
  · exact h5
theorem oj_arrAt {l : List Item} (i : Nat) {E : AE} (hi : A[i]? = some E) (hn : 0 < E.n) (k : ∀ g, E.ao = some ⟨g, 0, none⟩ → OJ cf l Q σ env hp A nh) : OJ cf l Q σ env hp A nh := by
  refine ⟨fun hb a β ha hex => ?_⟩
  obtain ⟨w, hw⟩ := hex
  have hE := hw.arr i E hi
  obtain ⟨g, hg⟩ := hE.some (Nat.lt_of_lt_of_le hn hE.ncap)
  exact (k g hg).run hb a β ha ⟨w, hw⟩
theorem cj_arrAt {c : Code} (i : Nat) {E : AE} (hi : A[i]? = some E) (hn : 0 < E.n) (k : ∀ g, E.ao = some ⟨g, 0, none⟩ → CJ cf c Q σ env hp A nh) : CJ cf c Q σ env hp A nh := by
  refine ⟨fun hb a β w ha hw => ?_⟩
  have hE := hw.arr i E hi
  obtain ⟨g, hg⟩ := hE.some (Nat.lt_of_lt_of_le hn hE.ncap)
  exact (k g hg).run hb a β w ha hw
theorem cj_arrCap {c : Code} (i : Nat) {E : AE} (hi : A[i]? = some E) (k : E.n ≤ E.cap → E.xs.length = E.n * E.sz → CJ cf c Q σ env hp A nh) : CJ cf c Q σ env hp A nh :=
  ⟨fun hb a β w ha hw => (k (hw.arr i E hi).ncap (hw.arr i E hi).1).run hb a β w ha hw⟩

/-- An operation that yields one value, in all worlds of the kind. -/
theorem oj_valW {d : Nat} (y : SV) (hd : it.o.dst = some d) (hg : guardVal it.guard env = some true) (hN : Nat.blt d cf.N = true) (hlt : y.lt nh) (ht : (match it.tag with | .pure => false | _ => true) = true)
    (hrun : Bd env hp nh → ∀ a β, StA cf env β a → ∀ w, StW cf σ hp A β w → (execOp a.eval it.o).run cf.P w = .ok (.value (y.den β)) w) (k : OJ cf rest Q σ ((d, y) :: env) hp A nh) : OJ cf (it :: rest) Q σ env hp A nh := by
  refine ⟨fun hb a β ha hex => ?_⟩
  have hN' : d < cf.N := by simpa [Nat.blt_eq] using hN
  have h' := k.run (hb.put hlt d) (a.put (some d) (y.den β)) β (ha.put hN' y) hex
  have hrun := hrun hb a β ha
  simp only [RunT]
  rw [if_pos (guardVal_ok ha hg), hd]
  cases htag : it.tag with
  | pure => rw [htag] at ht; cases ht
  | quiet => exact ⟨_, fun w hw => .inl (hrun w hw), h'⟩
  | keep => exact fun w hw => wp_of_quiet (.inl (hrun w hw)) ⟨_, _, hw, fun _ h => h, fun _ h => h, by rw [hd]; exact h'⟩
  | sink => exact fun w hw => wp_of_quiet (.inl (hrun w hw)) ⟨_, _, hw, fun _ h => h, by rw [hd]; exact h'⟩
  | free => exact fun w hw => wp_of_quiet (.inl (hrun w hw)) ⟨_, _, hw, fun _ h => h, by rw [hd]; exact h'⟩

theorem ArrOk.cell {w : World} {E : AE} (h : ArrOk cf σ w E) {g : Nat} (hg : E.ao = .some ⟨g, 0, none⟩) {j : Nat} {v : Value} (hv : E.xs[j]? = .some v) : w.cell? ⟨g, j, none⟩ = .some v := by
  rcases h.2 with h1 | ⟨g', cur, h3, h4, h5, h6, h7, h8, _⟩
  · rw [h1.1] at hg; cases hg
  · rw [hg] at h3
    injection h3 with h3
    simp only [Addr.mk.injEq, and_true] at h3
    subst h3
    rw [cell_of_row w g j cur E.e (0, 0) h4]
    rw [← h8, List.getElem?_take] at hv
    split at hv
    · simpa using hv
    · cases hv

/-- A load of one cell, in an array of one's own. -/
theorem oj_ldA (i : Nat) {E : AE} {d t : Nat} {x : Operand} {T : List (Nat × TI)} (hT : TTok cf.P T) {ti : TI} {g off : Nat} {c : AT} (hop : it.o.op = .load t x) (hd : it.o.dst = some d) (hg : guardVal it.guard env = some true) (hN : Nat.blt d cf.N = true)
    (htag : (match it.tag with | .pure => false | _ => true) = true) (hx : evalO env x = some (.a (.v (.pointer (some ⟨g, off, none⟩))))) (hi : A[i]? = some E) (hE : E.ao = some ⟨g, 0, none⟩) (ht : tget T t = some ti) (hag : ti.agg = false)
    (hv : E.xs[off]? = some c.val) (hc : c.lt 0) (k : OJ cf rest Q σ ((d, .a c) :: env) hp A nh) : OJ cf (it :: rest) Q σ env hp A nh := by
  refine oj_valW (.a c) hd hg hN (AT.lt_mono (Nat.zero_le _) hc) htag (fun _ a β ha w hw => ?_) k
  obtain ⟨inf, d', z, hs⟩ := tiOf_spec (hT _ _ ht)
  have hcell := (hw.arr i E hi).cell hE hv
  have hx' : a.eval x = .pointer (some ⟨g, off, none⟩) := evalO_eval ha hx
  have hload : (load ⟨g, off, none⟩).run cf.P w = .ok c.val w := by rw [run_load, hcell]
  simp only [execOp, hop, Instr.loadAt, hx', Instr.sureAddr, loadVar, Sem.run_bind, Sem.run_pure, Result.andThen_ok, run_isAgg hs.und, hs.agg, hag, Bool.false_eq_true, if_false, hload]
  simp only [SV.den, AT.den_val hc β]

/-- A load of a struct, in an array of one's own. -/
theorem oj_ldAs (i : Nat) {E : AE} {d t : Nat} {x : Operand} {T : List (Nat × TI)} (hT : TTok cf.P T) {ti : TI} {g off : Nat} (cs : List AT) (hop : it.o.op = .load t x) (hd : it.o.dst = some d) (hg : guardVal it.guard env = some true) (hN : Nat.blt d cf.N = true)
    (htag : (match it.tag with | .pure => false | _ => true) = true) (hx : evalO env x = some (.a (.v (.pointer (some ⟨g, off, none⟩))))) (hi : A[i]? = some E) (hE : E.ao = some ⟨g, 0, none⟩) (ht : tget T t = some ti) (hag : ti.agg = true)
    (hlen : cs.length = ti.size) (hv : ∀ (j : Nat) c, cs[j]? = some c → E.xs[off + j]? = some c.val) (hc : ∀ c ∈ cs, c.lt 0) (k : OJ cf rest Q σ ((d, .agg cs) :: env) hp A nh) : OJ cf (it :: rest) Q σ env hp A nh := by
  refine oj_valW (.agg cs) hd hg hN (fun c h => AT.lt_mono (Nat.zero_le _) (hc c h)) htag (fun _ a β ha w hw => ?_) k
  obtain ⟨inf, d', z, hs⟩ := tiOf_spec (hT _ _ ht)
  have hx' : a.eval x = .pointer (some ⟨g, off, none⟩) := evalO_eval ha hx
  have hrun := run_loadCells_list (P := cf.P) (w := w) ⟨g, off, none⟩ (cs.map (AT.den β)) (fun j v hv' => by
    rw [List.getElem?_map] at hv'
    obtain ⟨c, hc', rfl⟩ := map_some hv'
    rw [Addr.add_lit, AT.den_val (hc c (List.mem_of_getElem? hc')) β]
    exact (hw.arr i E hi).cell hE (hv j c hc'))
  have hl : (cs.map (AT.den β)).length = inf.size := by simp [hlen, hs.size]
  rw [hl] at hrun
  simp only [execOp, hop, Instr.loadAt, hx', Instr.sureAddr, loadVar, Sem.run_bind, Sem.run_pure, Result.andThen_ok, run_isAgg hs.und, hs.agg, hag, if_true, run_size hs.info, hrun]
  rfl

/-- A store of one cell. -/
theorem oj_stA (i : Nat) {E : AE} {A' : List AE} {t : Nat} {x y : Operand} {T : List (Nat × TI)} (hT : TTok cf.P T) {ti : TI} {g off : Nat} {c : AT} (hop : it.o.op = .store t x y) (hd : it.o.dst = none) (hg : guardVal it.guard env = some true)
    (htag : canSink it.tag = true) (hx : evalO env x = some (.a (.v (.pointer (some ⟨g, off, none⟩))))) (hy : evalO env y = some (.a c)) (hi : A[i]? = some E) (hE : E.ao = some ⟨g, 0, none⟩) (ht : tget T t = some ti) (hsz : ti.size = 1)
    (hoff : off < E.n * E.sz) (hc : c.lt 0) (hone : c.one = true) (hA : A.set i ⟨E.ao, E.n, E.cap, E.e, E.sz, E.xs.set off c.val⟩ = A') (k : OJ cf rest Q σ env hp A' nh) : OJ cf (it :: rest) Q σ env hp A nh := by
  subst hA
  refine ⟨fun hb a β ha hex => ?_⟩
  have key : ∀ w, StW cf σ hp A β w → ∀ Q', it.o.wq cf.P a w (fun a' w' => ∃ E' S' : World → Prop, S' w' ∧ (∀ x, S' x → E' x) ∧ RunT cf.P Q rest E' S' a') Q' := by
    intro w hw Q'
    obtain ⟨inf, d', z, hs⟩ := tiOf_spec (hT _ _ ht)
    have hx' : a.eval x = .pointer (some ⟨g, off, none⟩) := evalO_eval ha hx
    have hy' : a.eval y = c.val := by rw [← AT.den_val hc β]; exact evalO_eval ha hy
    have hE0 := hw.arr i E hi
    rcases hE0.2 with h1 | ⟨g', cur, h3, h4, h5, h6, h7, h8, h9, h10⟩
    · rw [h1.1] at hE; cases hE
    · rw [hE] at h3
      injection h3 with h3
      simp only [Addr.mk.injEq, and_true] at h3
      subst h3
      have hnc : E.n * E.sz ≤ E.cap * E.sz := Nat.mul_le_mul_right _ h5
      have h1v : c.val.oneCell' = true := AT.one_den β0 hone
      have hcell : c.val.cells = #[c.val] := by
        unfold Value.cells
        split
        · rename_i q hq; rw [hq] at h1v; cases h1v
        · rfl
      have hst := run_storeCells_at cf.P g off E.e [c.val] 0 cur w h4 (by simp only [List.length_singleton]; omega) (fun v hv => by
        simp only [List.mem_singleton] at hv; subst hv; exact h1v)
      simp only [Nat.add_zero] at hst
      have hset : cur.toList.take off ++ [c.val] ++ cur.toList.drop (off + 1) = cur.toList.set off c.val := by
        rw [List.set_eq_take_append_cons_drop, if_pos (by rw [Array.length_toList]; omega)]
        simp
      have hrun : (execOp a.eval it.o).run cf.P w = .ok .skip (w.setRow g (cur.toList.set off c.val).toArray) := by
        have hsz' : inf.size = 1 := by rw [hs.size, hsz]
        simp only [execOp, hop, Instr.storeAt, hx', hy', Instr.sureAddr, storeVar, Sem.run_bind, Sem.run_pure, Result.andThen_ok, hcell, run_size hs.info, hsz', List.size_toArray, List.length_singleton, ne_eq, not_true, if_false, Sem.run_ite, hst]
        rw [hset]
      unfold Oper.wq
      rw [hrun]
      have hw' := hw.setArr (E' := ⟨E.ao, E.n, E.cap, E.e, E.sz, E.xs.set off c.val⟩) (cur' := (cur.toList.set off c.val).toArray) hi hE h4 rfl rfl rfl rfl h5 (by simp [hE0.1]) (by simp [h7]) (by
        simp only [← h8, List.take_set])
      refine ⟨_, _, hw', fun _ h => h, ?_⟩
      rw [hd]
      exact k.run hb a β ha ⟨_, hw'⟩
  simp only [RunT]
  rw [if_pos (guardVal_ok ha hg)]
  cases htag' : it.tag with
  | pure => rw [htag'] at htag; cases htag
  | quiet => rw [htag'] at htag; cases htag
  | keep => rw [htag'] at htag; cases htag
  | sink => exact fun w hw => key w hw _
  | free => exact fun w hw => key w hw _

/-- A piece of a slice. -/
theorem run_sliceBounds {isS : Bool} {len cap l h : Nat} {lo hi : Option Value} (hlo : lo = none ∧ l = 0 ∨ ∃ k m, lo = some (.int k m) ∧ m = (l : Int)) (hhi : hi = none ∧ h = len ∨ ∃ k m, hi = some (.int k m) ∧ m = (h : Int)) (hl : l ≤ h) (hh : h ≤ cap) (hlc : len ≤ cap) (P : Program) (w : World) :
    (Instr.sliceBounds isS len cap lo hi none).run P w = .ok (l, h, cap) w := by
  rcases hlo with ⟨rfl, rfl⟩ | ⟨k, m, rfl, rfl⟩ <;> rcases hhi with ⟨rfl, rfl⟩ | ⟨k', m', rfl, rfl⟩ <;>
    simp [Instr.sliceBounds, Instr.sliceBound, asIntOf, hh, hl]

def optV (env : Env) : Option Operand → Option (Option Value)
  | none => some none
  | some o =>
    match evalO env o with
    | some (.a (.v (.int k m))) => some (some (.int k m))
    | _ => none

theorem optV_ok {β : Nat → Addr} {a : Act} (ha : StA cf env β a) {o : Option Operand} {v : Option Value} (h : optV env o = some v) : o.map a.eval = v := by
  cases o with
  | none => simp only [optV, Option.some.injEq] at h; subst h; rfl
  | some o =>
    simp only [optV] at h
    split at h
    · rename_i k m hk
      injection h with h
      subst h
      simp only [Option.map_some, evalO_eval ha hk]
      rfl
    · cases h

theorem oj_slice {d : Nat} {x : Operand} {lo hi : Option Operand} {vl vh : Option Value} {t e : TypeId} {T : List (Nat × TI)} (hT : TTok cf.P T) {ti te : TI} {ao : Option Addr} {n cap : Nat} (l h : Nat) (hop : it.o.op = .slice t x lo hi none) (hd : it.o.dst = some d)
    (hg : guardVal it.guard env = some true) (hN : Nat.blt d cf.N = true) (hx : evalO env x = some (.a (.v (.slice ao n cap)))) (hlo : optV env lo = some vl) (hhi : optV env hi = some vh)
    (ht : tget T t = some ti) (hkd : ti.kind = .slice e) (hte : tget T e = some te) (hl' : vl = none ∧ l = 0 ∨ ∃ k m, vl = some (.int k m) ∧ m = (l : Int)) (hh' : vh = none ∧ h = n ∨ ∃ k m, vh = some (.int k m) ∧ m = (h : Int)) (hlh : l ≤ h) (hhc : h ≤ cap) (hnc : n ≤ cap)
    (k : OJ cf rest Q σ ((d, .a (.v (.slice (if cap = l then ao else ao.map (·.add (l * te.size))) (h - l) (cap - l)))) :: env) hp A nh) : OJ cf (it :: rest) Q σ env hp A nh := by
  refine oj_val _ hd hg hN (by trivial) (fun _ a β ha w => ?_) k
  obtain ⟨i2, d2, z2, hs2⟩ := tiOf_spec (hT _ _ ht)
  obtain ⟨i3, d3, z3, hs3⟩ := tiOf_spec (hT _ _ hte)
  have h1 := hs2.kind
  have hun : cf.P.underlying t = some (.slice e) := by
    rw [hkd] at h1
    have h2 := hs2.und
    cases d2 <;> first
      | (simp only [kindD, TK.slice.injEq] at h1; subst h1; exact h2)
      | (simp only [kindD] at h1; cases h1)
  have h2 : a.eval x = .slice ao n cap := evalO_eval ha hx
  simp only [execOp, hop, h2, optV_ok ha hlo, optV_ok ha hhi, Option.map_none, Instr.sliceAt, Instr.slice, Sem.run_bind, run_underlying hun, Result.andThen_ok, run_sliceBounds hl' hh' hlh hhc hnc, run_size hs3.info, hs3.size, Sem.run_pure]
  rfl

/-- The first elements of a slice. -/
theorem oj_slice_to {d : Nat} {x hi : Operand} {t e : TypeId} {T : List (Nat × TI)} (hT : TTok cf.P T) {ti te : TI} {ao : Option Addr} {n cap : Nat} {kk : IntKind} {m : Int} (h : Nat) (hop : it.o.op = .slice t x none (some hi) none) (hd : it.o.dst = some d)
    (hg : guardVal it.guard env = some true) (hN : Nat.blt d cf.N = true) (hx : evalO env x = some (.a (.v (.slice ao n cap)))) (hhi : evalO env hi = some (.a (.v (.int kk m))))
    (ht : tget T t = some ti) (hkd : ti.kind = .slice e) (hte : tget T e = some te) (hm : m = (h : Int)) (hhc : h ≤ cap) (hnc : n ≤ cap)
    (k : OJ cf rest Q σ ((d, .a (.v (.slice ao h cap))) :: env) hp A nh) : OJ cf (it :: rest) Q σ env hp A nh := by
  refine oj_slice (vl := none) (vh := some (.int kk m)) hT 0 h hop hd hg hN hx rfl (by simp [optV, hhi]) ht hkd hte (.inl ⟨rfl, rfl⟩) (.inr ⟨kk, m, rfl, hm⟩) (Nat.zero_le _) hhc hnc ?_
  have e1 : (if cap = 0 then ao else ao.map (·.add (0 * te.size))) = ao := by
    split
    · rfl
    · cases ao <;> simp [Addr.add_zero']
  rw [e1]
  exact k

/-- A piece of a string. -/
theorem oj_slice_str {d : Nat} {x : Operand} {lo hi : Option Operand} {vl vh : Option Value} {t : TypeId} {T : List (Nat × TI)} (hT : TTok cf.P T) {ti : TI} {s : ByteArray} (l h : Nat) (hop : it.o.op = .slice t x lo hi none) (hd : it.o.dst = some d)
    (hg : guardVal it.guard env = some true) (hN : Nat.blt d cf.N = true) (hx : evalO env x = some (.a (.v (.string s)))) (hlo : optV env lo = some vl) (hhi : optV env hi = some vh)
    (ht : tget T t = some ti) (hkd : ti.kind = .str) (hl' : vl = none ∧ l = 0 ∨ ∃ k m, vl = some (.int k m) ∧ m = (l : Int)) (hh' : vh = none ∧ h = s.size ∨ ∃ k m, vh = some (.int k m) ∧ m = (h : Int)) (hlh : l ≤ h) (hhc : h ≤ s.size)
    (k : OJ cf rest Q σ ((d, .a (.v (.string (s.extract l h)))) :: env) hp A nh) : OJ cf (it :: rest) Q σ env hp A nh := by
  refine oj_val _ hd hg hN (by trivial) (fun _ a β ha w => ?_) k
  obtain ⟨i2, d2, z2, hs2⟩ := tiOf_spec (hT _ _ ht)
  have h1 := hs2.kind
  have hun : cf.P.underlying t = some .string := by
    rw [hkd] at h1
    have h2 := hs2.und
    cases d2 <;> first
      | exact h2
      | (simp only [kindD] at h1; cases h1)
  have h2 : a.eval x = .string s := evalO_eval ha hx
  simp only [execOp, hop, h2, optV_ok ha hlo, optV_ok ha hhi, Option.map_none, Instr.sliceAt, Instr.slice, Sem.run_bind, run_underlying hun, Result.andThen_ok, Option.isSome_none, Bool.false_eq_true, if_false, run_sliceBounds hl' hh' hlh hhc (Nat.le_refl _), Sem.run_pure]
  rfl
end

/-! ### Flat rows -/

theorem flat_len {α : Type} {sz : Nat} : ∀ {rows : List (List α)}, (∀ r ∈ rows, r.length = sz) → rows.flatten.length = rows.length * sz
  | [], _ => by simp
  | r :: l, h => by
    rw [List.flatten_cons, List.length_append, h r (List.mem_cons_self ..), flat_len fun q hq => h q (List.mem_cons_of_mem _ hq), List.length_cons, Nat.add_mul]
    omega

theorem flat_get {α : Type} {sz : Nat} : ∀ {rows : List (List α)} (_ : ∀ r ∈ rows, r.length = sz) {m j : Nat} {r : List α} {c : α}, rows[m]? = some r → r[j]? = some c → rows.flatten[m * sz + j]? = some c
  | [], _, _, _, _, _, h, _ => by simp at h
  | q :: l, h, m, j, r, c, hm, hj => by
    have hq := h q (List.mem_cons_self ..)
    rw [List.flatten_cons]
    cases m with
    | zero =>
      simp at hm
      subst hm
      have := (List.getElem?_eq_some_iff.1 hj).1
      rw [Nat.zero_mul, Nat.zero_add, List.getElem?_append_left this]; exact hj
    | succ m =>
      rw [List.getElem?_append_right (by rw [hq, Nat.add_mul]; omega)]
      have e : (m + 1) * sz + j - q.length = m * sz + j := by rw [hq, Nat.add_mul]; omega
      rw [e]
      exact flat_get (fun r hr => h r (List.mem_cons_of_mem _ hr)) (by simpa using hm) hj

theorem flat_set {α : Type} {sz : Nat} : ∀ {rows : List (List α)} (_ : ∀ r ∈ rows, r.length = sz) {m j : Nat} {r : List α} (c : α), rows[m]? = some r → j < sz → rows.flatten.set (m * sz + j) c = (rows.set m (r.set j c)).flatten
  | [], _, _, _, _, _, h, _ => by simp at h
  | q :: l, h, m, j, r, c, hm, hj => by
    have hq := h q (List.mem_cons_self ..)
    rw [List.flatten_cons]
    cases m with
    | zero =>
      simp at hm
      subst hm
      rw [Nat.zero_mul, Nat.zero_add, List.set_append_left _ _ (by omega)]
      simp
    | succ m =>
      rw [List.set_append_right _ _ (by rw [hq, Nat.add_mul]; omega)]
      have e : (m + 1) * sz + j - q.length = m * sz + j := by rw [hq, Nat.add_mul]; omega
      rw [e, flat_set (fun r hr => h r (List.mem_cons_of_mem _ hr)) c (by simpa using hm) hj]
      simp

theorem flat_take {α : Type} {sz : Nat} : ∀ {rows : List (List α)} (_ : ∀ r ∈ rows, r.length = sz) (k : Nat), rows.flatten.take (k * sz) = (rows.take k).flatten
  | [], _, k => by simp
  | q :: l, h, 0 => by simp
  | q :: l, h, k + 1 => by
    have hq := h q (List.mem_cons_self ..)
    rw [List.flatten_cons, List.take_succ_cons, List.flatten_cons, ← flat_take (fun r hr => h r (List.mem_cons_of_mem _ hr)) k, List.take_append, hq, List.take_of_length_le (by rw [hq, Nat.add_mul]; omega)]
    congr 2
    rw [Nat.add_mul]
    omega

/-- What a sealed array is as a slice. -/
theorem ArrSealed.sl {σ : Snap} {E : AE} {rows : List (List AT)} {n sz : Nat} (h : ArrSealed σ E) (hx : E.xs = rows.flatten.map AT.val) (hr : ∀ r ∈ rows, r.length = sz ∧ ∀ c ∈ r, c.lt 0) (hl : rows.length = n) (hn : E.n = n) (hcap : n ≤ E.cap) : SlAt σ E.ao n E.cap sz rows := by
  refine ⟨hl, hcap, hr, ?_⟩
  rcases h with ⟨_, h2⟩ | ⟨g, h1, h2⟩
  · exact .inl (by omega)
  · refine .inr ⟨⟨g, 0, none⟩, h1, fun i r j c hi hj => ?_⟩
    rw [add0]
    refine h2 _ _ ?_
    rw [hx, List.getElem?_map, flat_get (fun r hr' => (hr r hr').1) hi hj]
    rfl

end Go.Sy
/- Contracts in the reckoning's own words. No program in sight. -/
namespace Go.Sy

def LtAll : List SV → Prop
  | [] => True
  | y :: l => y.lt 0 ∧ LtAll l
theorem LtAll.of : ∀ {l : List SV}, LtAll l → ∀ y ∈ l, y.lt 0
  | [], _, _, h => by cases h
  | y :: l, h, z, hz => by
    cases hz with
    | head => exact h.1
    | tail _ hz => exact LtAll.of h.2 z hz

/-- The contract of a function that changes nothing. -/
def PureS (P : Program) (f : FuncId) (svs : List SV) (σ : Snap) (Φ : Value → Snap → Prop) : Prop := PureC P f (svs.map (SV.den β0)).toArray σ Φ
/-- The same, where the answer bears no memory. -/
def PlainS (P : Program) (f : FuncId) (svs : List SV) (σ : Snap) (Φ : Value → Prop) : Prop := PureC P f (svs.map (SV.den β0)).toArray σ (fun v _ => Φ v)
/-- The contract of a function that is handed arrays. -/
def FnS (P : Program) (f : FuncId) (svs : List SV) (σ : Snap) (A : List AE) (Φ : Value → Snap → List AE → Prop) : Prop := FnC P f (svs.map (SV.den β0)).toArray σ A Φ

theorem enter_s {P : Program} {f : FuncId} {fn : Func} {c : Code} {svs : List SV} {σ : Snap} {Φ : Value → Snap → Prop}
    (hf : P.funcs[f]? = some fn) (hb : fn.body = some c) (hN : Nat.ble svs.length fn.ntmps = true) (hlt : LtAll svs)
    (h : ∀ w, CJ ⟨P, w, σ, fun _ => False, fn.ntmps, [], none⟩ c (bodyPost P fn (postR w (fun _ => False) σ (fun v _ σ' => Φ v σ'))) σ (argEnv 0 svs) [] [] 0) : PureS P f svs σ Φ :=
  enter_pure hf hb svs rfl (Nat.le_of_ble_eq_true hN) hlt.of h
theorem enter_p {P : Program} {f : FuncId} {fn : Func} {c : Code} {svs : List SV} {σ : Snap} {Φ : Value → Prop}
    (hf : P.funcs[f]? = some fn) (hb : fn.body = some c) (hN : Nat.ble svs.length fn.ntmps = true) (hlt : LtAll svs)
    (h : ∀ w, CJ ⟨P, w, σ, fun _ => False, fn.ntmps, [], none⟩ c (bodyPost P fn (postR w (fun _ => False) σ (fun v _ _ => Φ v))) σ (argEnv 0 svs) [] [] 0) : PlainS P f svs σ Φ :=
  enter_pure hf hb svs rfl (Nat.le_of_ble_eq_true hN) hlt.of h
theorem enter_f {P : Program} {f : FuncId} {fn : Func} {c : Code} {svs : List SV} {σ : Snap} {A : List AE} {Φ : Value → Snap → List AE → Prop}
    (hf : P.funcs[f]? = some fn) (hb : fn.body = some c) (hN : Nat.ble svs.length fn.ntmps = true) (hlt : LtAll svs)
    (h : ∀ w, CJ ⟨P, w, σ, blks A, fn.ntmps, [], none⟩ c (bodyPost P fn (postR w (blks A) σ (postF P w σ A Φ))) σ (argEnv 0 svs) [] A 0) : FnS P f svs σ A Φ :=
  enter_fn hf hb svs rfl (Nat.le_of_ble_eq_true hN) hlt.of h

section
variable {cf : Cf} {Q : Exit → Act → World → Prop} {σ : Snap} {env : Env} {hp : HP} {A : List AE} {nh : Nat} {it : Item} {rest : List Item}

theorem oj_callS {d : Nat} {f : FuncId} {ys : List SV} {Φ : Value → Snap → Prop} (hc : callee env it.o.op = some (f, ys)) (hd : it.o.dst = some d) (hg : guardVal it.guard env = some true)
    (hN : Nat.blt d cf.N = true) (hq : notQuiet it.tag = true) (hcall : ∀ args w, (callFunc f args).run cf.P w = .ok (.enter f args) w) (hlt : LtAll ys)
    (hC : PureS cf.P f ys σ Φ)
    (k : ∀ v σ', σ.le σ' → Φ v σ' → ∃ y : SV, y.lt 0 ∧ y.den β0 = v ∧ OJ cf rest Q σ' ((d, y) :: env) hp A nh) : OJ cf (it :: rest) Q σ env hp A nh :=
  oj_call hc hd hg hN hq hcall hlt.of hC k
theorem oj_callP {d : Nat} {f : FuncId} {ys : List SV} {Φ : Value → Prop} (hc : callee env it.o.op = some (f, ys)) (hd : it.o.dst = some d) (hg : guardVal it.guard env = some true)
    (hN : Nat.blt d cf.N = true) (hq : notQuiet it.tag = true) (hcall : ∀ args w, (callFunc f args).run cf.P w = .ok (.enter f args) w) (hlt : LtAll ys)
    (hC : PlainS cf.P f ys σ Φ)
    (k : ∀ v, Φ v → ∃ y : SV, y.lt 0 ∧ y.den β0 = v ∧ OJ cf rest Q σ ((d, y) :: env) hp A nh) : OJ cf (it :: rest) Q σ env hp A nh :=
  oj_call_plain hc hd hg hN hq hcall hlt.of hC k
theorem oj_callF {d : Nat} {f : FuncId} {ys : List SV} {Φ : Value → Snap → List AE → Prop} (is : List Nat) {A0 Ar : List AE} (hA : reA is A = A0 ++ Ar) (hn : nodupB is = true)
    (hc : callee env it.o.op = some (f, ys)) (hd : it.o.dst = some d) (hg : guardVal it.guard env = some true)
    (hN : Nat.blt d cf.N = true) (htag : canSink it.tag = true) (hcall : ∀ args w, (callFunc f args).run cf.P w = .ok (.enter f args) w) (hlt : LtAll ys)
    (hC : FnS cf.P f ys σ A0 Φ)
    (k : ∀ v σ' A', σ.le σ' → Φ v σ' A' → ∃ y : SV, y.lt 0 ∧ y.den β0 = v ∧ OJ cf rest Q σ' ((d, y) :: env) hp (A' ++ Ar) nh) : OJ cf (it :: rest) Q σ env hp A nh :=
  oj_call_fn is hA hn hc hd hg hN htag hcall hlt.of hC k

/-- A loop whose state has two parts. -/
theorem cj_loop2 {α γ : Type} {c : Code} (sσ : α → γ → Snap) (sE : α → γ → Env) (sH : α → γ → HP) (sA : α → γ → List AE) (sn : Nat) (I : α → γ → Prop) (μ : α → γ → Nat) (x0 : α) (y0 : γ) (h0 : I x0 y0) (hσ : sσ x0 y0 = σ) (he : allInE (sE x0 y0) env)
    (hh : allInH (sH x0 y0) hp) (hA : sA x0 y0 = A) (hl : EnvLt sn (sE x0 y0)) (hl' : HpLt sn (sH x0 y0))
    (hround : ∀ x y, I x y → CJ cf c (Exit.then (Again cf (fun s : α × γ => I s.1 s.2) (fun s => μ s.1 s.2) (fun s => sσ s.1 s.2) (fun s => sE s.1 s.2) (fun s => sH s.1 s.2) (fun s => sA s.1 s.2) sn (μ x y)) Q) (sσ x y) (sE x y) (sH x y) (sA x y) sn) : CJ cf (.loop c) Q σ env hp A nh :=
  cj_loop (fun s : α × γ => sσ s.1 s.2) (fun s => sE s.1 s.2) (fun s => sH s.1 s.2) (fun s => sA s.1 s.2) sn (fun s => I s.1 s.2) (fun s => μ s.1 s.2) (x0, y0) h0 hσ he hh hA hl hl' fun s hI => hround s.1 s.2 hI
theorem nj_again2 {α γ : Type} {I : α → γ → Prop} {μ : α → γ → Nat} {sσ : α → γ → Snap} {sE : α → γ → Env} {sH : α → γ → HP} {sA : α → γ → List AE} {sn : Nat} {n : Nat} (x : α) (y : γ) (hI : I x y) (hμ : μ x y < n) (hσ : sσ x y = σ)
    (he : allInE (sE x y) env) (hh : allInH (sH x y) hp) (hA : sA x y = A) (hl : EnvLt sn (sE x y)) (hl' : HpLt sn (sH x y)) :
    NJ cf .normal (Exit.then (Again cf (fun s : α × γ => I s.1 s.2) (fun s => μ s.1 s.2) (fun s => sσ s.1 s.2) (fun s => sE s.1 s.2) (fun s => sH s.1 s.2) (fun s => sA s.1 s.2) sn n) Q) σ env hp A nh :=
  nj_again (α := α × γ) (I := fun s => I s.1 s.2) (μ := fun s => μ s.1 s.2) (sσ := fun s => sσ s.1 s.2) (sE := fun s => sE s.1 s.2) (sH := fun s => sH s.1 s.2) (sA := fun s => sA s.1 s.2) (x, y) hI hμ hσ he hh hA hl hl'

/-- All ways out of a block meet at a state that is told. -/
theorem cj_cutB {α : Type} {id : Nat} {c y : Code} {Q' : Exit → Act → World → Prop} (sσ : α → Snap) (sE : α → Env) (sH : α → HP) (sA : α → List AE) (sn : Nat) (I : α → Prop)
    (hx : CJ cf c (Exit.inBlock id (Exit.then (Again cf I (fun _ => 0) sσ sE sH sA sn 1) Q)) σ env hp A nh) (hy : ∀ i, I i → CJ cf y Q' (sσ i) (sE i) (sH i) (sA i) sn) : CJ cf c (Exit.inBlock id (Exit.then (wpR cf.rd cf.P y Q') Q)) σ env hp A nh := by
  have key : ∀ e a w, Exit.then (Again cf I (fun _ => 0) sσ sE sH sA sn 1) Q e a w → Exit.then (wpR cf.rd cf.P y Q') Q e a w := by
    intro e a w q
    cases e with
    | normal =>
      obtain ⟨i, hI, _, hb, β, ha, hw⟩ := q
      exact (hy i hI).run hb a β w ha hw
    | _ => exact q
  refine ⟨fun hb a β w ha hw => Code.wpIn_mono (fun e a w q => ?_) (hx.run hb a β w ha hw)⟩
  cases e with
  | exit i =>
    simp only [Exit.inBlock] at q ⊢
    split
    · rename_i h; rw [if_pos h] at q; exact key _ _ _ q
    · rename_i h; rw [if_neg h] at q; exact key _ _ _ q
  | _ => simp only [Exit.inBlock] at q ⊢; exact key _ _ _ q
/-- All ways through a piece meet at a state that is told. -/
theorem cj_cutN {α : Type} {c y : Code} {Q' : Exit → Act → World → Prop} (sσ : α → Snap) (sE : α → Env) (sH : α → HP) (sA : α → List AE) (sn : Nat) (I : α → Prop)
    (hx : CJ cf c (Exit.then (Again cf I (fun _ => 0) sσ sE sH sA sn 1) Q) σ env hp A nh) (hy : ∀ i, I i → CJ cf y Q' (sσ i) (sE i) (sH i) (sA i) sn) : CJ cf c (Exit.then (wpR cf.rd cf.P y Q') Q) σ env hp A nh := by
  refine ⟨fun hb a β w ha hw => Code.wpIn_mono (fun e a w q => ?_) (hx.run hb a β w ha hw)⟩
  cases e with
  | normal =>
    obtain ⟨i, hI, _, hb, β, ha, hw⟩ := q
    exact (hy i hI).run hb a β w ha hw
  | _ => exact q

/-- An int's quotient's rest. -/
theorem oj_rem {d : Nat} {x y : Operand} {xt yt : TypeId} {m n : Int} (hop : it.o.op = .binOp .rem xt x y yt) (hd : it.o.dst = some d) (hg : guardVal it.guard env = some true) (hN : Nat.blt d cf.N = true)
    (hx : evalO env x = some (.a (.v (.int .i64 m)))) (hy : evalO env y = some (.a (.v (.int .i64 n)))) (hb : n ≠ 0)
    (hk : OJ cf rest Q σ ((d, .a (.v (.int .i64 (m.tmod n)))) :: env) hp A nh) : OJ cf (it :: rest) Q σ env hp A nh :=
  oj_arith _ hop hd hg hN hx hy (run_rem hb rfl) hk
end
end Go.Sy
/- More single operations: bits, conversions, bytes of a string, comparisons. No program in sight. -/
namespace Go.Sy

def bAnd (k : IntKind) (x y : Int) : Int := k.wrap ((BitVec.ofInt k.bits x &&& BitVec.ofInt k.bits y).toNat : Nat)
def bOr (k : IntKind) (x y : Int) : Int := k.wrap ((BitVec.ofInt k.bits x ||| BitVec.ofInt k.bits y).toNat : Nat)
def bAndNot (k : IntKind) (x y : Int) : Int := k.wrap ((BitVec.ofInt k.bits x &&& ~~~BitVec.ofInt k.bits y).toNat : Nat)
def bShl (k : IntKind) (x y : Int) : Int := k.wrap (x * 2 ^ (min y.toNat k.bits))
def bShr (k : IntKind) (x y : Int) : Int := x.fdiv (2 ^ (min y.toNat k.bits))

/-- The bytes of a string, one a cell. -/
def byteRows (s : ByteArray) : List (List AT) := s.data.toList.map fun u => [.v (.int .u8 u.toNat)]

section
variable {cf : Cf} {Q : Exit → Act → World → Prop} {σ : Snap} {env : Env} {hp : HP} {A : List AE} {nh : Nat} {it : Item} {rest : List Item}

/-- An operation that yields a value, and new sealed memory. -/
theorem oj_fresh {d : Nat} {Φ : Value → Snap → Prop} (hd : it.o.dst = some d) (hg : guardVal it.guard env = some true) (hN : Nat.blt d cf.N = true) (hq : notQuiet it.tag = true)
    (hC : ∀ a β, StA cf env β a → ∀ w, Sealed σ w → ∃ v w' σ', (execOp a.eval it.o).run cf.P w = .ok (.value v) w' ∧ Fr (fun _ => False) w w' ∧ SGrow (fun _ => False) σ w σ' ∧ Sealed σ' w' ∧ Φ v σ')
    (k : ∀ v σ', σ.le σ' → Φ v σ' → ∃ y : SV, y.lt 0 ∧ y.den β0 = v ∧ OJ cf rest Q σ' ((d, y) :: env) hp A nh) : OJ cf (it :: rest) Q σ env hp A nh := by
  refine ⟨fun hb a β ha hex => ?_⟩
  have hN' : d < cf.N := by simpa [Nat.blt_eq] using hN
  have den0 : ∀ {y : SV}, y.lt 0 → y.den β = y.den β0 := fun hy => SV.den_congr (n := 0) (fun i hi => by omega) hy
  have hrun : ∀ w, StW cf σ hp A β w → ∀ (K : Act → World → Prop) (Q' : Exit → Act → World → Prop),
      (∀ v w' σ', σ.le σ' → Φ v σ' → StW cf σ' hp A β w' → (∀ x, StW cf σ' hp A β x → StW cf σ hp A β x) → K (a.put it.o.dst v) w') → it.o.wq cf.P a w K Q' := by
    intro w hw K Q' hK
    obtain ⟨v, w', σ', he, h1, h2, h3, h4⟩ := hC a β ha w hw.sealed
    unfold Oper.wq
    rw [he]
    simp only [Oper.uponIn]
    refine hK v w' σ' h2.le h4 (hw.after h1 h2 h3) fun x hx => ?_
    have hσ : ∀ {b}, σ' b = none → σ b = none := fun hb => Snap.none_of_le h2.le hb
    refine ⟨hx.os, hx.tape, hx.output, hx.size, hx.fr, fun b o hb => hx.sealed b o (h2.le b o hb), hw.le, hw.grow, fun i e cs hi => ?_, hw.ro, hx.inj, fun i E hE => ?_, hx.arrd, hx.arrh⟩
    · obtain ⟨q1, q2, q3, q4⟩ := hx.loc i e cs hi
      exact ⟨q1, q2, hσ q3, q4⟩
    · obtain ⟨q1, q2⟩ := hx.arr i E hE
      refine ⟨q1, q2.imp id ?_⟩
      rintro ⟨g, cur, h3, h4, h5, h6, h7, h8, h9, h10⟩
      exact ⟨g, cur, h3, h4, h5, h6, h7, h8, hσ h9, h10⟩
  have cont : ∀ v σ', σ.le σ' → Φ v σ' → (∃ w, StW cf σ' hp A β w) → RunT cf.P Q rest (fun w => StW cf σ' hp A β w) (fun w => StW cf σ' hp A β w) (a.put it.o.dst v) := by
    intro v σ' hle hΦ hex'
    obtain ⟨y, hy, hyv, hk⟩ := k v σ' hle hΦ
    have := hk.run (hb.put (SV.lt_mono (Nat.zero_le _) hy) d) (a.put (some d) (y.den β)) β (ha.put hN' y) hex'
    rw [hd, ← hyv, ← den0 hy]
    exact this
  simp only [RunT]
  rw [if_pos (guardVal_ok ha hg)]
  cases htag : it.tag with
  | pure => rw [htag] at hq; cases hq
  | quiet => rw [htag] at hq; cases hq
  | keep => exact fun w hw => hrun w hw _ _ fun v w' σ' hle hΦ hw' hsub => ⟨_, _, hw', fun _ h => h, hsub, cont v σ' hle hΦ ⟨_, hw'⟩⟩
  | sink => exact fun w hw => hrun w hw _ _ fun v w' σ' hle hΦ hw' _ => ⟨_, _, hw', fun _ h => h, cont v σ' hle hΦ ⟨_, hw'⟩⟩
  | free => exact fun w hw => hrun w hw _ _ fun v w' σ' hle hΦ hw' _ => ⟨_, _, hw', fun _ h => h, cont v σ' hle hΦ ⟨_, hw'⟩⟩

theorem run_mark {P : Program} {w : World} {b : Nat} {e : TypeId} {n : Nat} (h : w.shape? b = some (e, n)) : (markStringish ⟨b, 0, none⟩).run P w = .ok () (w.freeze ⟨b, n, none⟩ 1) := by
  simp only [markStringish, Sem.run_bind, run_shape, Result.andThen_ok, h, run_freeze]

theorem run_toBytes {P : Program} {w : World} {e : TypeId} {y : ByteArray} {cap : Nat} (hc : grownCap w y.size 0 e = cap) {row : Array Value} (hr : row = y.data.map (fun b => Value.int .u8 b.toNat) ++ Array.replicate (cap - y.size) (.int .u8 0)) (hs : row.size = cap) :
    (Conv.stringToBytes e y).run P w = .ok (.slice (some ⟨w.heap.size, 0, none⟩) y.size cap) ((w.drew.alloc (.cells row e)).freeze ⟨w.heap.size, cap, none⟩ 1) := by
  have hc' : (choose (.appendCap y.size 0 e)).run P w = .ok cap w.drew := by
    simp only [run_choose, Question.forced, Bool.false_eq_true, if_false]
    rw [← hc]; rfl
  have hsh : (w.drew.alloc (.cells row e)).shape? w.heap.size = some (e, cap) := by
    show (match (w.heap.push _)[w.heap.size]? with | some (.cells c elem _) => some (elem, c.size) | _ => none) = _
    rw [Array.getElem?_push, if_pos rfl]
    simp only [hs]
  have hn : (newRow e (y.data.map (fun b => Value.int .u8 b.toNat) ++ Array.replicate (cap - y.size) (.int .u8 0))).run P w.drew = .ok ⟨w.heap.size, 0, none⟩ (w.drew.alloc (.cells row e)) := by
    rw [← hr]
    simp only [newRow, Sem.run_bind, run_newObj, Result.andThen_ok, Sem.run_pure]
    rfl
  simp only [Conv.stringToBytes, Sem.run_bind, hc', Result.andThen_ok, hn, run_mark hsh, Sem.run_pure]

/-- []byte(s): new bytes, sealed at once. -/
theorem oj_bytes {d : Nat} {x : Operand} {s t e : TypeId} {T : List (Nat × TI)} (hT : TTok cf.P T) {ts ti te : TI} {y : ByteArray} (hop : it.o.op = .convert s t x) (hd : it.o.dst = some d) (hg : guardVal it.guard env = some true)
    (hN : Nat.blt d cf.N = true) (hq : notQuiet it.tag = true) (hx : evalO env x = some (.a (.v (.string y)))) (hs : tget T s = some ts) (ht : tget T t = some ti) (hkd : ti.kind = .slice e) (hte : tget T e = some te) (hke : te.kind = .int .u8)
    (k : ∀ ao cap σ', σ.le σ' → SlAt σ' ao y.size cap 1 (byteRows y) → OJ cf rest Q σ' ((d, .a (.v (.slice ao y.size cap))) :: env) hp A nh) : OJ cf (it :: rest) Q σ env hp A nh := by
  obtain ⟨i1, d1, z1, hs1⟩ := tiOf_spec (hT _ _ hs)
  obtain ⟨i2, d2, z2, hs2⟩ := tiOf_spec (hT _ _ ht)
  obtain ⟨i3, d3, z3, hs3⟩ := tiOf_spec (hT _ _ hte)
  have hut : cf.P.underlying t = some (.slice e) := by
    have h1 := hs2.kind
    rw [hkd] at h1
    have h2 := hs2.und
    cases d2 <;> first
      | (simp only [kindD, TK.slice.injEq] at h1; subst h1; exact h2)
      | (simp only [kindD] at h1; cases h1)
  have hue : cf.P.underlying e = some (.int .u8) := by
    have h1 := hs3.kind
    rw [hke] at h1
    have h2 := hs3.und
    cases d3 <;> first
      | (simp only [kindD, TK.int.injEq] at h1; subst h1; exact h2)
      | (simp only [kindD] at h1; cases h1)
  refine oj_fresh (Φ := fun v σ' => ∃ ao cap, v = .slice ao y.size cap ∧ SlAt σ' ao y.size cap 1 (byteRows y)) hd hg hN hq (fun a β ha w hsl => ?_) (fun v σ' hle ⟨ao, cap, hv, hS⟩ => ⟨.a (.v (.slice ao y.size cap)), trivial, hv.symm, k ao cap σ' hle hS⟩)
  have hx' : a.eval x = .string y := evalO_eval ha hx
  have hge := grownCap_ge w y.size 0 e
  generalize hcap : grownCap w y.size 0 e = cap at hge
  let elems : Array Value := y.data.map fun b => .int .u8 b.toNat
  let row : Array Value := elems ++ Array.replicate (cap - y.size) (.int .u8 0)
  have hrow : row.size = cap := by
    have : y.data.size = y.size := rfl
    simp [row, elems]; omega
  let ob : Obj := .cells row e (cap, cap + 1)
  let w1 := w.drew.alloc (.cells row e)
  let w' := w1.freeze ⟨w.heap.size, cap, none⟩ 1
  let σ' : Snap := fun b => if b = w.heap.size then some ob else σ b
  have hw1 : ∀ b, b ≠ w.heap.size → w'.heap[b]? = w.heap[b]? := by
    intro b hb
    show (if 1 = 0 then w1 else { w1 with heap := _ } : World).heap[b]? = _
    rw [if_neg (by omega)]
    simp only [Array.getElem?_modify]
    rw [if_neg (fun h => hb h.symm)]
    show (w.heap.push _)[b]? = _
    rw [Array.getElem?_push, if_neg hb]
  have hnew : w'.heap[w.heap.size]? = some ob := by
    show (if 1 = 0 then w1 else { w1 with heap := _ } : World).heap[w.heap.size]? = _
    rw [if_neg (by omega)]
    simp only [Array.getElem?_modify, if_true]
    have : w1.heap[w.heap.size]? = some (.cells row e (0, 0)) := by
      show (w.heap.push _)[w.heap.size]? = _
      rw [Array.getElem?_push, if_pos rfl]
    rw [this]
    rfl
  have hrun : (execOp a.eval it.o).run cf.P w = .ok (.value (.slice (some ⟨w.heap.size, 0, none⟩) y.size cap)) w' := by
    simp only [execOp, hop, hx', convert, Sem.run_bind, run_underlying hs1.und, run_underlying hut, Result.andThen_ok]
    cases d1 <;> simp only [run_underlying hue, Result.andThen_ok, run_toBytes hcap (row := row) rfl hrow, Sem.run_pure] <;> rfl
  refine ⟨_, w', σ', hrun, ⟨rfl, rfl, rfl, ?_, fun b hb _ => hw1 b (by omega)⟩, ⟨fun b o hb => ?_, fun b hb => ?_⟩, fun b o hb => ?_, some ⟨w.heap.size, 0, none⟩, cap, rfl, ?_⟩
  · have : w'.heap.size = w.heap.size + 1 := by
      show (if 1 = 0 then w1 else { w1 with heap := _ } : World).heap.size = _
      rw [if_neg (by omega)]
      simp only [Array.size_modify]
      show (w.heap.push _).size = _
      rw [Array.size_push]
    omega
  · have := (Array.getElem?_eq_some_iff.1 (hsl b o hb)).1
    simp only [σ']
    rw [if_neg (by omega)]; exact hb
  · simp only [σ'] at hb
    by_cases h : b = w.heap.size
    · exact .inr (.inl (by omega))
    · rw [if_neg h] at hb; exact .inl hb
  · simp only [σ'] at hb
    by_cases h : b = w.heap.size
    · rw [if_pos h] at hb; injection hb with hb; subst hb; rw [h]; exact hnew
    · rw [if_neg h] at hb; rw [hw1 b h]; exact hsl b o hb
  · refine ⟨by simp [byteRows], hge, fun r hr => ?_, .inr ⟨_, rfl, fun i r j c hi hj => ?_⟩⟩
    · simp only [byteRows, List.mem_map] at hr
      obtain ⟨u, _, rfl⟩ := hr
      exact ⟨rfl, fun c hc => by simp at hc; subst hc; trivial⟩
    · simp only [byteRows, List.getElem?_map] at hi
      obtain ⟨u, hu, rfl⟩ := map_some hi
      cases j with
      | succ j => simp at hj
      | zero =>
        simp at hj
        subst hj
        rw [add0]
        simp only [Snap.cell, σ', if_true, ob, row, elems]
        have hlt := (List.getElem?_eq_some_iff.1 hu).1
        simp only [Nat.mul_one, Nat.add_zero, Option.isSome_none, Bool.false_eq_true, if_false]
        rw [Array.getElem?_append_left (by simpa using hlt)]
        simp only [Array.getElem?_map, AT.den]
        have : y.data[i]? = some u := by simpa using hu
        rw [this]
        rfl

theorem run_bits {op : BinOp} {xt : TypeId} {k : IntKind} {m n r : Int} (h : ∀ P w, (Op.intBits op k m n).run P w = .ok (.int k r) w) (hop : op = .and ∨ op = .or ∨ op = .andNot) (w : World) (P : Program) : (binOp op xt (.int k m) (.int k n)).run P w = .ok (.int k r) w := by
  rcases hop with rfl | rfl | rfl <;> simp only [binOp, ne_eq, not_true, if_false, h]

theorem oj_band {d : Nat} {x y : Operand} {xt yt : TypeId} {k : IntKind} {m n : Int} (hop : it.o.op = .binOp .and xt x y yt) (hd : it.o.dst = some d) (hg : guardVal it.guard env = some true) (hN : Nat.blt d cf.N = true)
    (hx : evalO env x = some (.a (.v (.int k m)))) (hy : evalO env y = some (.a (.v (.int k n))))
    (hk : OJ cf rest Q σ ((d, .a (.v (.int k (bAnd k m n)))) :: env) hp A nh) : OJ cf (it :: rest) Q σ env hp A nh :=
  oj_arith _ hop hd hg hN hx hy (fun w P => run_bits (fun _ _ => rfl) (.inl rfl) w P) hk
theorem oj_bor {d : Nat} {x y : Operand} {xt yt : TypeId} {k : IntKind} {m n : Int} (hop : it.o.op = .binOp .or xt x y yt) (hd : it.o.dst = some d) (hg : guardVal it.guard env = some true) (hN : Nat.blt d cf.N = true)
    (hx : evalO env x = some (.a (.v (.int k m)))) (hy : evalO env y = some (.a (.v (.int k n))))
    (hk : OJ cf rest Q σ ((d, .a (.v (.int k (bOr k m n)))) :: env) hp A nh) : OJ cf (it :: rest) Q σ env hp A nh :=
  oj_arith _ hop hd hg hN hx hy (fun w P => run_bits (fun _ _ => rfl) (.inr (.inl rfl)) w P) hk
theorem oj_bandnot {d : Nat} {x y : Operand} {xt yt : TypeId} {k : IntKind} {m n : Int} (hop : it.o.op = .binOp .andNot xt x y yt) (hd : it.o.dst = some d) (hg : guardVal it.guard env = some true) (hN : Nat.blt d cf.N = true)
    (hx : evalO env x = some (.a (.v (.int k m)))) (hy : evalO env y = some (.a (.v (.int k n))))
    (hk : OJ cf rest Q σ ((d, .a (.v (.int k (bAndNot k m n)))) :: env) hp A nh) : OJ cf (it :: rest) Q σ env hp A nh :=
  oj_arith _ hop hd hg hN hx hy (fun w P => run_bits (fun _ _ => rfl) (.inr (.inr rfl)) w P) hk

theorem oj_bshl {d : Nat} {x y : Operand} {xt yt : TypeId} {k k' : IntKind} {m n : Int} (hop : it.o.op = .binOp .shl xt x y yt) (hd : it.o.dst = some d) (hg : guardVal it.guard env = some true) (hN : Nat.blt d cf.N = true)
    (hx : evalO env x = some (.a (.v (.int k m)))) (hy : evalO env y = some (.a (.v (.int k' n)))) (h0 : 0 ≤ n)
    (hk : OJ cf rest Q σ ((d, .a (.v (.int k (bShl k m n)))) :: env) hp A nh) : OJ cf (it :: rest) Q σ env hp A nh := by
  refine oj_val (.a (.v (.int k (bShl k m n)))) hd hg hN trivial (fun _ a β ha w => ?_) hk
  have h1 : a.eval x = .int k m := evalO_eval ha hx
  have h2 : a.eval y = .int k' n := evalO_eval ha hy
  simp only [execOp, hop, h1, h2, eqGuard, Sem.run_bind, binOp, Op.shift, if_neg (Int.not_lt.2 h0), Sem.run_pure]
  rfl
theorem oj_bshr {d : Nat} {x y : Operand} {xt yt : TypeId} {k k' : IntKind} {m n : Int} (hop : it.o.op = .binOp .shr xt x y yt) (hd : it.o.dst = some d) (hg : guardVal it.guard env = some true) (hN : Nat.blt d cf.N = true)
    (hx : evalO env x = some (.a (.v (.int k m)))) (hy : evalO env y = some (.a (.v (.int k' n)))) (h0 : 0 ≤ n)
    (hk : OJ cf rest Q σ ((d, .a (.v (.int k (bShr k m n)))) :: env) hp A nh) : OJ cf (it :: rest) Q σ env hp A nh := by
  refine oj_val (.a (.v (.int k (bShr k m n)))) hd hg hN trivial (fun _ a β ha w => ?_) hk
  have h1 : a.eval x = .int k m := evalO_eval ha hx
  have h2 : a.eval y = .int k' n := evalO_eval ha hy
  simp only [execOp, hop, h1, h2, eqGuard, Sem.run_bind, binOp, Op.shift, if_neg (Int.not_lt.2 h0), Sem.run_pure]
  rfl

theorem run_eqNil {P : Program} {t e : TypeId} (hun : P.underlying t = some (.slice e)) (m : Nat) (ao : Option Addr) (n c n' c' : Nat) (w : World) : (Op.equalIn (m + 1) t (.slice ao n c) (.slice none n' c')).run P w = .ok ao.isNone w := by
  cases ao <;> simp only [Op.equalIn, Sem.run_bind, run_underlying hun, Result.andThen_ok, Sem.run_pure] <;> rfl

/-- A slice against nil. -/
theorem oj_slnil {d : Nat} {x y : Operand} {t yt e : TypeId} {T : List (Nat × TI)} (hT : TTok cf.P T) {ti : TI} {ao : Option Addr} {n c n' c' : Nat} (hop : it.o.op = .binOp .eql t x y yt) (hd : it.o.dst = some d)
    (hg : guardVal it.guard env = some true) (hN : Nat.blt d cf.N = true) (hx : evalO env x = some (.a (.v (.slice ao n c)))) (hy : evalO env y = some (.a (.v (.slice none n' c')))) (ht : tget T t = some ti) (hkd : ti.kind = .slice e)
    (hk : OJ cf rest Q σ ((d, .a (.b ao.isNone)) :: env) hp A nh) : OJ cf (it :: rest) Q σ env hp A nh := by
  refine oj_val (.a (.b ao.isNone)) hd hg hN trivial (fun _ a β ha w => ?_) hk
  obtain ⟨i2, d2, z2, hs2⟩ := tiOf_spec (hT _ _ ht)
  have hun : cf.P.underlying t = some (.slice e) := by
    have h1 := hs2.kind
    rw [hkd] at h1
    have h2 := hs2.und
    cases d2 <;> first
      | (simp only [kindD, TK.slice.injEq] at h1; subst h1; exact h2)
      | (simp only [kindD] at h1; cases h1)
  have h1 : a.eval x = .slice ao n c := evalO_eval ha hx
  have h2 : a.eval y = .slice none n' c' := evalO_eval ha hy
  have hE : (Op.equal t (.slice ao n c) (.slice none n' c')).run cf.P w = .ok ao.isNone w := run_eqNil hun 9999 ao n c n' c' w
  have hG : (eqGuard .eql t x y (.slice ao n c) (.slice none n' c')).run cf.P w = .ok () w := rfl
  have hB : (binOp .eql t (.slice ao n c) (.slice none n' c')).run cf.P w = .ok (.bool ao.isNone) w := by
    simp only [binOp, Sem.run_bind, hE, Result.andThen_ok, Sem.run_pure]
  simp only [execOp, hop, h1, h2, Sem.run_bind, hG, hB, Result.andThen_ok, Sem.run_pure]
  rfl

/-- An element of an array value. -/
theorem oj_index_arr {d : Nat} {x i : Operand} {t : TypeId} {cs : List AT} {k : IntKind} {m : Int} (l : List AT) (e len : Nat) (de : TypeDesc) (hut : cf.P.underlying t = some (.array len e)) (hue : cf.P.underlying e = some de) (hag : aggD de = true) (hop : it.o.op = .index t x i) (hd : it.o.dst = some d)
    (hg : guardVal it.guard env = some true) (hN : Nat.blt d cf.N = true) (hx : evalO env x = some (.agg cs)) (hi : evalO env i = some (.a (.v (.int k m)))) (h0 : 0 ≤ m) (hm : m.toNat < len)
    (hl : takeAt cs (m.toNat * cf.P.cellsOf e) (cf.P.cellsOf e) = some l)
    (hk : OJ cf rest Q σ ((d, .agg l) :: env) hp A nh) : OJ cf (it :: rest) Q σ env hp A nh := by
  obtain ⟨hl1, hl2⟩ := takeAt_spec cs _ _ l hl
  have key : Bd env hp nh → (SV.agg l).lt nh := fun hb c hc => takeAt_lt hl (evalO_lt hb hx) c hc
  refine ⟨fun hb => (oj_val (.agg l) hd hg hN (key hb) (fun _ a β ha w => ?_) hk).run hb⟩
  have h2 : a.eval x = .agg (cs.map (AT.den β)).toArray := evalO_eval ha hx
  have h3 : a.eval i = .int k m := evalO_eval ha hi
  have hlt : m < len := by omega
  simp only [execOp, hop, h2, h3, Instr.index, asIntOf, Sem.run_bind, Sem.run_pure, Result.andThen_ok, run_underlying hut, h0, hlt, and_self, if_true, part, run_isAgg hue, hag, run_sizeB rfl hue]
  rw [hl1]
  simp [SV.den, List.extract_eq_take_drop, List.map_take, List.map_drop]
end
end Go.Sy
