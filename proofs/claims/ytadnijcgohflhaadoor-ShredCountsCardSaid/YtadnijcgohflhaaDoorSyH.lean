/- Slices that the call makes; sealing; calls that change what is handed in. No program in sight. -/
import Derived.Test.YtadnijcgohflhaaDoorSyG
namespace Go.Sy

/-! ### append -/

def AT.val (c : AT) : Value := c.den β0

theorem AT.den_val {c : AT} (h : c.lt 0) (β : Nat → Addr) : c.den β = c.val := AT.den_congr (n := 0) (fun i hi => by omega) h

section
variable {cf : Cf} {σ : Snap} {hp : HP} {A : List AE} {β : Nat → Addr} {w : World}

theorem StW.drew' (h : StW cf σ hp A β w) : StW cf σ hp A β w.drew :=
  ⟨h.os, h.tape, h.output, h.size, h.fr, h.sealed, h.le, h.grow, h.loc, h.ro, h.inj, h.arr, h.arrd, h.arrh⟩

theorem set_get {A : List AE} {i j : Nat} {E' F : AE} (h : (A.set i E')[j]? = some F) : (i = j ∧ F = E') ∨ (i ≠ j ∧ A[j]? = some F) := by
  rw [List.getElem?_set] at h
  by_cases hij : i = j
  · rw [if_pos hij] at h
    split at h
    · injection h with h; exact .inl ⟨hij, h.symm⟩
    · cases h
  · rw [if_neg hij] at h; exact .inr ⟨hij, h⟩

/-- The array's own block is laid anew. -/
theorem StW.setArr (h : StW cf σ hp A β w) {i : Nat} {E E' : AE} (hi : A[i]? = some E) {g : Nat} {cur cur' : Array Value} (hg : E.ao = some ⟨g, 0, none⟩) (hw : w.heap[g]? = some (.cells cur E.e (0, 0)))
    (hao : E'.ao = E.ao) (he : E'.e = E.e) (hsz : E'.sz = E.sz) (hcap : E'.cap = E.cap) (hn : E'.n ≤ E'.cap) (hl : E'.xs.length = E'.n * E'.sz) (hs : cur'.size = E'.cap * E'.sz) (ht : cur'.toList.take (E'.n * E'.sz) = E'.xs) :
    StW cf σ hp (A.set i E') β (w.setRow g cur') := by
  have hE := h.arr i E hi
  have hblk : E.blk = some g := by simp [AE.blk, hg]
  have hblk' : E'.blk = some g := by simp [AE.blk, hao, hg]
  obtain ⟨hlt, hσ, hown⟩ := hE.lt hblk
  have hoth : ∀ b, b ≠ g → (w.setRow g cur').heap[b]? = w.heap[b]? := fun b hb => setRow_other w g b _ hb
  have hcm : E.cap ≤ maxLen := by
    rcases hE.2 with h2 | ⟨g', c', h3, h4, h5, h6, _⟩
    · rw [h2.1] at hg; cases hg
    · exact h6
  refine ⟨h.os, h.tape, h.output, by have := h.size; simpa using this, fun b hb hm => ?_, fun b ob hs => ?_, h.le, h.grow, fun j e' l hj => ?_, h.ro, h.inj, fun j F hF => ?_, fun j k F G hF hG hjk => ?_, fun j k F e' l hF hk => ?_⟩
  · rw [hoth b (fun hc => by subst hc; rcases hown with h4 | h4 <;> first | omega | exact hm h4)]; exact h.fr b hb hm
  · rw [hoth b (fun hc => by subst hc; rw [hσ] at hs; cases hs)]; exact h.sealed b ob hs
  · obtain ⟨g1, g2, g3⟩ := h.loc j e' l hj
    exact ⟨g1, by rw [hoth _ (fun hc => h.arrh i j E e' l hi hj (by rw [hc]; exact hblk))]; exact g2, g3⟩
  · rcases set_get hF with ⟨rfl, rfl⟩ | ⟨hij, hF⟩
    · refine ⟨hl, .inr ⟨g, cur', by rw [hao, hg], ?_, hn, by rw [hcap]; exact hcm, hs, ht, hσ, hown⟩⟩
      rw [he]; exact setRow_heap w g cur _ _ _ hw
    · exact (h.arr j F hF).keep fun q hq => hoth q fun hc => h.arrd i j E F hi hF hij g hblk (hc ▸ hq)
  · intro q hq
    rcases set_get hF with ⟨rfl, rfl⟩ | ⟨hij, hF'⟩ <;> rcases set_get hG with ⟨rfl, rfl⟩ | ⟨hik, hG'⟩
    · exact absurd rfl hjk
    · rw [hblk'] at hq; injection hq with hq; subst hq
      exact h.arrd _ _ E G hi hG' hjk _ hblk
    · rw [hblk']; intro hc; injection hc with hc; subst hc
      exact h.arrd _ _ E F hi hF' hij _ hblk hq
    · exact h.arrd _ _ F G hF' hG' hjk q hq
  · rcases set_get hF with ⟨rfl, rfl⟩ | ⟨hij, hF⟩
    · rw [hblk', ← hblk]; exact h.arrh _ k E e' l hi hk
    · exact h.arrh j k F e' l hF hk

/-- The array moves to a new block. -/
theorem StW.moveArr (h : StW cf σ hp A β w) {i : Nat} {E E' : AE} (_ : A[i]? = some E) {cur' : Array Value}
    (hao : E'.ao = some ⟨w.heap.size, 0, none⟩) (hn : E'.n ≤ E'.cap) (hcm : E'.cap ≤ maxLen) (hl : E'.xs.length = E'.n * E'.sz) (hs : cur'.size = E'.cap * E'.sz) (ht : cur'.toList.take (E'.n * E'.sz) = E'.xs) :
    StW cf σ hp (A.set i E') β (w.drew.alloc (.cells cur' E'.e)) := by
  have hblk' : E'.blk = some w.heap.size := by simp [AE.blk, hao]
  have hoth : ∀ b, b < w.heap.size → (w.drew.alloc (.cells cur' E'.e)).heap[b]? = w.heap[b]? := fun b hb => by
    show (w.heap.push _)[b]? = _; rw [Array.getElem?_push, if_neg (Nat.ne_of_lt hb)]
  have hσ : σ w.heap.size = none := by
    cases hs : σ w.heap.size with
    | none => rfl
    | some ob =>
      have := h.sealed _ _ hs
      have := (Array.getElem?_eq_some_iff.1 this).1
      omega
  have hsz : w.heap.size ≤ (w.drew.alloc (.cells cur' E'.e)).heap.size := by
    show w.heap.size ≤ (w.heap.push _).size; rw [Array.size_push]; omega
  refine ⟨h.os, h.tape, h.output, Nat.le_trans h.size hsz, fun b hb hm => ?_, fun b ob hs => ?_, h.le, h.grow, fun j e' l hj => ?_, h.ro, h.inj, fun j F hF => ?_, fun j k F G hF hG hjk => ?_, fun j k F e' l hF hk => ?_⟩
  · rw [hoth b (Nat.lt_of_lt_of_le hb h.size)]; exact h.fr b hb hm
  · have := h.sealed b ob hs
    rw [hoth b (Array.getElem?_eq_some_iff.1 this).1]; exact this
  · obtain ⟨g1, g2, g3⟩ := h.loc j e' l hj
    exact ⟨g1, by rw [hoth _ (Array.getElem?_eq_some_iff.1 g2).1]; exact g2, g3⟩
  · rcases set_get hF with ⟨rfl, rfl⟩ | ⟨hij, hF⟩
    · refine ⟨hl, .inr ⟨w.heap.size, cur', hao, ?_, hn, hcm, hs, ht, hσ, .inl h.size⟩⟩
      show (w.heap.push _)[w.heap.size]? = _
      rw [Array.getElem?_push, if_pos rfl]
    · exact (h.arr j F hF).keep fun q hq => hoth q ((h.arr j F hF).lt hq).1
  · intro q hq
    rcases set_get hF with ⟨rfl, rfl⟩ | ⟨hij, hF'⟩ <;> rcases set_get hG with ⟨rfl, rfl⟩ | ⟨hik, hG'⟩
    · exact absurd rfl hjk
    · rw [hblk'] at hq; injection hq with hq
      intro hc
      have := ((h.arr _ G hG').lt hc).1
      omega
    · rw [hblk']
      intro hc; injection hc with hc
      have := ((h.arr _ F hF').lt hq).1
      omega
    · exact h.arrd _ _ F G hF' hG' hjk q hq
  · rcases set_get hF with ⟨rfl, rfl⟩ | ⟨hij, hF⟩
    · rw [hblk']; intro hc; injection hc with hc
      have := (Array.getElem?_eq_some_iff.1 (h.loc k e' l hk).2.1).1
      omega
    · exact h.arrh j k F e' l hF hk

theorem set_same {A : List AE} {i : Nat} {E : AE} (h : A[i]? = some E) : A.set i E = A := by
  apply List.ext_getElem?
  intro j
  rw [List.getElem?_set]
  by_cases hij : i = j
  · subst hij
    rw [if_pos rfl, if_pos (List.getElem?_eq_some_iff.1 h).1, h]
  · rw [if_neg hij]

/-- 'append(s, x...)' where s is the call's own. -/
theorem StW.append (h : StW cf σ hp A β w) {i : Nat} {E : AE} (hi : A[i]? = some E) {t u ty : TypeId} {ie : TypeInfo} {z x : Value} {m : Nat} {news : List Value} {du : TypeDesc}
    (ht : cf.P.underlying t = some (.slice E.e)) (hu : cf.P.underlying u = some du) (hdu : (∃ e', du = .slice e') ∨ du = .string) (hie : cf.P.info? E.e = some ie) (hz : ie.zero = some z) (hsz : ie.size = E.sz) (hzs : z.cells.size = E.sz)
    (hlen : ∀ w', (Builtin.lenOf x).run cf.P w' = .ok m w') (hfc : ∀ w' : World, w'.heap = w.heap → (Builtin.firstCells E.sz m x).run cf.P w' = .ok news.toArray w') (hnl : news.length = m * E.sz) (h1 : ∀ v ∈ news, v.oneCell' = true)
    (hmax : E.n + m ≤ maxLen) (hbytes : (E.n + m) * ie.bytes ≤ 140737488355328) :
    ∃ ao' cap' w', (Builtin.append_ #[t, u] ty #[.slice E.ao E.n E.cap, x]).run cf.P w = .ok (.slice ao' (E.n + m) cap') w' ∧ StW cf σ hp (A.set i ⟨ao', E.n + m, cap', E.e, E.sz, E.xs ++ news⟩) β w' ∧ E.n + m ≤ cap' := by
  have hE := h.arr i E hi
  have hxl : (E.xs ++ news).length = (E.n + m) * E.sz := by rw [List.length_append, hE.1, hnl, Nat.add_mul]
  by_cases hroom : E.n + m ≤ E.cap
  · -- there is room
    rcases hE.2 with ⟨e1, e2, e3⟩ | ⟨g, cur, hg, hw, hnc, hcm, hcs, htk, hσ, hown⟩
    · have hm0 : m = 0 := by omega
      subst hm0
      have hn0 : news = [] := List.eq_nil_of_length_eq_zero (by simpa using hnl)
      subst hn0
      refine ⟨E.ao, E.cap, w, ?_, ?_, hroom⟩
      · have hf := hfc w rfl
        rcases hdu with ⟨e', rfl⟩ | rfl <;> simp only [Builtin.append_, List.getElem?_toArray, List.getElem?_cons_zero, List.getElem?_cons_succ, Sem.run_bind, run_underlying ht, Result.andThen_ok, run_size hie, hsz, run_underlying hu, Bool.false_eq_true, if_false, hlen, Nat.add_zero, e1, e2, e3, Nat.le_refl, if_true, Bool.not_false, hf, Sem.run_pure]
      · have : (⟨E.ao, E.n + 0, E.cap, E.e, E.sz, E.xs ++ []⟩ : AE) = E := by cases E; simp
        rw [this, set_same hi]; exact h
    · have hst := run_storeCells_at cf.P g (E.n * E.sz) E.e news 0 cur w hw (by rw [hcs, hnl, Nat.add_zero, ← Nat.add_mul]; exact Nat.mul_le_mul_right _ hroom) h1
      simp only [Nat.add_zero] at hst
      refine ⟨E.ao, E.cap, w.setRow g (cur.toList.take (E.n * E.sz) ++ news ++ cur.toList.drop (E.n * E.sz + news.length)).toArray, ?_, h.setArr hi hg hw rfl rfl rfl rfl hroom hxl ?_ ?_, hroom⟩
      · have hf := hfc w rfl
        rcases hdu with ⟨e', rfl⟩ | rfl <;> simp only [Builtin.append_, List.getElem?_toArray, List.getElem?_cons_zero, List.getElem?_cons_succ, Sem.run_bind, run_underlying ht, Result.andThen_ok, run_size hie, hsz, run_underlying hu, Bool.false_eq_true, if_false, hlen, hroom, if_true, Bool.not_false, hf, Sem.run_pure, hg, add0, hst]
      · have e1 : E.n * E.sz + news.length ≤ cur.size := by rw [hcs, hnl, ← Nat.add_mul]; exact Nat.mul_le_mul_right _ hroom
        simp only [List.size_toArray, List.length_append, List.length_take, List.length_drop, Array.length_toList, hcs] at e1 ⊢
        rw [← hcs] at e1 ⊢
        omega
      · have e1 : E.n * E.sz ≤ cur.size := by rw [hcs]; exact Nat.mul_le_mul_right _ hnc
        simp only [htk]
        rw [← hxl]
        exact List.take_left
  · -- a new array
    have hfits := growslice_fits (old := E.cap) (need := E.n + m) (bytes := ie.bytes) (by omega) hbytes
    have hge := grownCap_ge w (E.n + m) E.cap E.e
    have hgm := grownCap_le_maxLen w (E.n + m) E.cap E.e hmax
    have hold : ∀ w' : World, w'.heap = w.heap → (Builtin.firstCells E.sz E.n (.slice E.ao E.n E.cap)).run cf.P w' = .ok E.xs.toArray w' := by
      intro w' hh
      rcases hE.2 with ⟨e1, e2, e3⟩ | ⟨g, cur, hg, hw, hnc, hcm, hcs, htk, hσ, hown⟩
      · have : E.xs = [] := List.eq_nil_of_length_eq_zero (by rw [hE.1, e2]; simp)
        rw [e1, this]; rfl
      · rw [hg]
        refine run_firstCells_some (P := cf.P) w' E.sz E.n ⟨g, 0, none⟩ E.n E.cap E.xs hE.1 fun j v hv => ?_
        have hw' : w'.heap[g]? = some (.cells cur E.e (0, 0)) := by rw [hh]; exact hw
        rw [add0, cell_of_row w' g j cur E.e (0, 0) hw']
        rw [← htk, List.getElem?_take] at hv
        split at hv
        · simpa using hv
        · cases hv
    have hmi : ¬ (9223372036854775807 < ((E.n + m : Nat) : Int)) := by simp only [maxLen] at hmax; omega
    have h48 : ¬ (281474976710656 < Builtin.nextslicecap (E.n + m) E.cap * ie.bytes) := by omega
    refine ⟨some ⟨w.heap.size, 0, none⟩, grownCap w (E.n + m) E.cap E.e, w.drew.alloc (.cells (E.xs.toArray ++ news.toArray ++ Builtin.zeroCells z.cells (grownCap w (E.n + m) E.cap E.e - (E.n + m))) E.e), ?_, ?_, hge⟩
    · have hf := hfc w.drew rfl
      have hfo := hold w.drew rfl
      have hfo' : (Builtin.firstCells E.sz E.n (.slice E.ao E.n E.cap)).run cf.P { w with drawn := w.drawn + 1 } = .ok E.xs.toArray { w with drawn := w.drawn + 1 } := hfo
      have hf' : (Builtin.firstCells E.sz m x).run cf.P { w with drawn := w.drawn + 1 } = .ok news.toArray { w with drawn := w.drawn + 1 } := hf
      rcases hdu with ⟨e', rfl⟩ | rfl <;> (
       simp only [Builtin.append_, List.getElem?_toArray, List.getElem?_cons_zero, List.getElem?_cons_succ, Sem.run_bind, run_underlying ht, Result.andThen_ok, run_size hie, hsz, run_underlying hu, Bool.false_eq_true, if_false, hlen, hroom,
        run_tinfo hie, Sem.run_pure, Bool.not_false, if_true]
       simp only [IntKind.max_i64, gt_iff_lt, hmi, false_and, if_false, h48, Sem.run_pure, Result.andThen_ok, Sem.run_bind, run_tinfo hie, run_choose, Question.forced, Bool.false_eq_true, run_askRoom]
       simp only [hfo', hf', Result.andThen_ok, run_zero hie hz, newRow, Sem.run_bind, run_newObj, Sem.run_pure]
       rfl)
    · refine h.moveArr hi rfl hge hgm hxl ?_ ?_
      · simp only [Array.size_append, List.size_toArray, size_zeroCells, hzs, hE.1, hnl, ← Nat.add_mul]
        congr 1
        omega
      · simp only [Array.toList_append, List.append_assoc]
        rw [← List.append_assoc, ← hxl]
        exact List.take_left
end

/-! ### Rules -/

def canSink : Tag → Bool
  | .free | .sink => true
  | _ => false

section
variable {cf : Cf} {Q : Exit → Act → World → Prop} {σ : Snap} {env : Env} {hp : HP} {A : List AE} {nh : Nat} {it : Item} {rest : List Item}

/-- An operation that changes the world, in a region without a draw, or alone for good. -/
theorem oj_step {d : Nat} (hd : it.o.dst = some d) (hg : guardVal it.guard env = some true) (hN : Nat.blt d cf.N = true) (ht : canSink it.tag = true)
    (h : Bd env hp nh → ∀ a β, StA cf env β a → ∀ w, StW cf σ hp A β w → ∃ y σ' hp' A' nh' w' β', (execOp a.eval it.o).run cf.P w = .ok (.value (SV.den β' y)) w' ∧ StA cf env β' a ∧ Bd ((d, y) :: env) hp' nh' ∧ StW cf σ' hp' A' β' w' ∧
      OJ cf rest Q σ' ((d, y) :: env) hp' A' nh') : OJ cf (it :: rest) Q σ env hp A nh := by
  refine ⟨fun hb a β ha hex => ?_⟩
  have hN' : d < cf.N := by simpa [Nat.blt_eq] using hN
  have key : ∀ w, StW cf σ hp A β w → ∀ Q', it.o.wq cf.P a w (fun a' w' => ∃ E' S' : World → Prop, S' w' ∧ (∀ x, S' x → E' x) ∧ RunT cf.P Q rest E' S' a') Q' := by
    intro w hw Q'
    obtain ⟨y, σ', hp', A', nh', w', β', hrun, ha', hb', hw', hj⟩ := h hb a β ha w hw
    unfold Oper.wq
    rw [hrun]
    refine ⟨_, _, hw', fun _ h => h, ?_⟩
    rw [hd]
    exact hj.run hb' _ β' (ha'.put hN' y) ⟨_, hw'⟩
  simp only [RunT]
  rw [if_pos (guardVal_ok ha hg)]
  cases htag : it.tag with
  | pure => rw [htag] at ht; cases ht
  | quiet => rw [htag] at ht; cases ht
  | keep => rw [htag] at ht; cases ht
  | sink => exact fun w hw => key w hw _
  | free => exact fun w hw => key w hw _

/-- Which operands are appended. -/
def appendOf : Op → Option (Operand × Operand × TypeId × TypeId)
  | .call c =>
    match c.callee, c.args.toList, c.argTypes.toList with
    | .builtin .append, [s, x], [t, u] => some (s, x, t, u)
    | _, _, _ => none
  | _ => none

theorem appendOf_run {o : Oper} {s x : Operand} {t u : TypeId} (h : appendOf o.op = some (s, x, t, u)) {P : Program} {a : Act} {w w' : World} {v : Value}
    (hr : (Builtin.append_ #[t, u] o.type #[a.eval s, a.eval x]).run P w = .ok v w') : (execOp a.eval o).run P w = .ok (.value v) w' := by
  unfold appendOf at h
  split at h
  · rename_i c hop
    split at h
    · rename_i s' x' t' u' hcal hargs htys
      injection h with h
      simp only [Prod.mk.injEq] at h
      obtain ⟨rfl, rfl, rfl, rfl⟩ := h
      have e1 : c.args = #[s', x'] := by
        cases hq : c.args with
        | mk l => rw [hq] at hargs; simp only at hargs; rw [hargs]
      have e2 : c.argTypes = #[t', u'] := by
        cases hq : c.argTypes with
        | mk l => rw [hq] at htys; simp only at htys; rw [htys]
      simp only [execOp, hop, resolve, hcal, e1, e2, invoke, builtin, Sem.run_bind, Sem.run_pure, Result.andThen_ok, List.map_toArray, List.map_cons, List.map_nil, hr]
    · cases h
  · cases h

def slOrStr : TK → Bool
  | .slice _ => true
  | .str => true
  | _ => false

theorem slOrStr_ok {d : TypeDesc} (h : slOrStr (kindD d) = true) : (∃ e', d = .slice e') ∨ d = .string := by
  cases d <;> first | exact .inl ⟨_, rfl⟩ | exact .inr rfl | cases h

/-- 'append(s, x...)', s the call's own array number i; x a slice that is written out in place, or made by the call. -/
theorem oj_append_lit {d : Nat} {s x : Operand} {t u e : Nat} {T : List (Nat × TI)} (hT : TTok cf.P T) {ti tu te : TI} (i : Nat) {E : AE} {ao : Option Addr} {n cap j m : Nat} {k : HK} {cs : List AT}
    (hop : appendOf it.o.op = some (s, x, t, u)) (hd : it.o.dst = some d) (hg : guardVal it.guard env = some true) (hN : Nat.blt d cf.N = true) (htg : canSink it.tag = true)
    (hs : evalO env s = some (.a (.v (.slice ao n cap)))) (hx : evalO env x = some (.a (.sl j m))) (hrow : hp.get j = some (k, cs)) (hA : A[i]? = some E) (hE : (E.ao, E.n, E.cap, E.e) = (ao, n, cap, e))
    (ht : tget T t = some ti) (hkt : ti.kind = .slice e) (hu : tget T u = some tu) (hku : slOrStr tu.kind = true) (hte : tget T e = some te) (hsz : E.sz = te.size) (hzl : te.zero.length = te.size) (hcs : cs.length = m * te.size)
    (hclo : ∀ c ∈ cs, c.lt 0) (hone : cs.all AT.one = true) (hmax : n + m ≤ 9223372036854775807) (hby : (n + m) * te.bytes ≤ 140737488355328)
    (hk : ∀ ao' cap', n + m ≤ cap' → OJ cf rest Q σ ((d, .a (.v (.slice ao' (n + m) cap'))) :: env) hp (A.set i ⟨ao', n + m, cap', E.e, E.sz, E.xs ++ cs.map AT.val⟩) nh) : OJ cf (it :: rest) Q σ env hp A nh := by
  simp only [Prod.mk.injEq] at hE
  obtain ⟨rfl, rfl, rfl, rfl⟩ := hE
  refine oj_step hd hg hN htg fun hb a β ha w hw => ?_
  obtain ⟨i1, d1, z1, hs1⟩ := tiOf_spec (hT _ _ ht)
  obtain ⟨i2, d2, z2, hs2⟩ := tiOf_spec (hT _ _ hu)
  obtain ⟨i3, d3, z3, hs3⟩ := tiOf_spec (hT _ _ hte)
  have hut : cf.P.underlying t = some (.slice E.e) := by
    have h1 := hs1.kind
    rw [hkt] at h1
    have h2 := hs1.und
    cases d1 <;> first
      | (simp only [kindD, TK.slice.injEq] at h1; subst h1; exact h2)
      | (simp only [kindD] at h1; cases h1)
  have hz3 : z3.cells.size = E.sz := by
    have := zero_den hs3 β
    rw [← this, hsz]
    simp [hzl]
  have hcells : ∀ j' v, (cs.map AT.val)[j']? = some v → w.cell? ((β j).add j') = some v := by
    intro j' v hv
    rw [List.getElem?_map] at hv
    obtain ⟨c, hc, rfl⟩ := map_some hv
    rw [← AT.den_val (hclo c (List.mem_of_getElem? hc)) β]
    exact hw.cell hrow hc
  have hnl : (cs.map AT.val).length = m * E.sz := by rw [List.length_map, hcs, hsz]
  have hxe : a.eval x = .slice (some (β j)) m m := evalO_eval ha hx
  have hse : a.eval s = .slice E.ao E.n E.cap := evalO_eval ha hs
  obtain ⟨ao', cap', w', hrun, hw', hc'⟩ := hw.append hA (t := t) (u := u) (ty := it.o.type) (x := .slice (some (β j)) m m) (m := m) (news := cs.map AT.val) hut hs2.und (slOrStr_ok (by rw [hs2.kind]; exact hku)) hs3.info hs3.zero
    (by rw [hs3.size, hsz]) hz3 (fun _ => rfl) (fun w'' hh => run_firstCells_some (P := cf.P) w'' E.sz m (β j) m m _ hnl fun j' v hv => by
      have := hcells j' v hv
      rw [World.cell?, hh]; exact this) hnl
    (fun v hv => by obtain ⟨c, hc, rfl⟩ := List.mem_map.1 hv; exact AT.one_den β0 (List.all_eq_true.1 hone c hc)) (by simp only [maxLen]; exact hmax) (by rw [hs3.bytes]; exact hby)
  refine ⟨.a (.v (.slice ao' (E.n + m) cap')), σ, hp, _, nh, w', β, ?_, ha, hb.put (x := .a (.v (.slice ao' (E.n + m) cap'))) trivial d, hw', hk ao' cap' hc'⟩
  exact appendOf_run hop (by rw [hse, hxe]; exact hrun)

/-- 'append(s, x...)', x sealed. -/
theorem oj_append_sl {d : Nat} {s x : Operand} {t u e : Nat} {T : List (Nat × TI)} (hT : TTok cf.P T) {ti tu te : TI} (i : Nat) {E : AE} {ao : Option Addr} {n cap : Nat} {xo : Option Addr} {m xc : Nat} {rows : List (List AT)}
    (hop : appendOf it.o.op = some (s, x, t, u)) (hd : it.o.dst = some d) (hg : guardVal it.guard env = some true) (hN : Nat.blt d cf.N = true) (htg : canSink it.tag = true)
    (hs : evalO env s = some (.a (.v (.slice ao n cap)))) (hx : evalO env x = some (.a (.v (.slice xo m xc)))) (H : SlAt σ xo m xc te.size rows) (hA : A[i]? = some E) (hE : (E.ao, E.n, E.cap, E.e) = (ao, n, cap, e))
    (ht : tget T t = some ti) (hkt : ti.kind = .slice e) (hu : tget T u = some tu) (hku : slOrStr tu.kind = true) (hte : tget T e = some te) (hsz : E.sz = te.size) (hzl : te.zero.length = te.size)
    (hone : ∀ r ∈ rows, r.all AT.one = true) (hmax : n + m ≤ 9223372036854775807) (hby : (n + m) * te.bytes ≤ 140737488355328)
    (hk : ∀ ao' cap', n + m ≤ cap' → OJ cf rest Q σ ((d, .a (.v (.slice ao' (n + m) cap'))) :: env) hp (A.set i ⟨ao', n + m, cap', E.e, E.sz, E.xs ++ rows.flatten.map AT.val⟩) nh) : OJ cf (it :: rest) Q σ env hp A nh := by
  simp only [Prod.mk.injEq] at hE
  obtain ⟨rfl, rfl, rfl, rfl⟩ := hE
  refine oj_step hd hg hN htg fun hb a β ha w hw => ?_
  obtain ⟨i1, d1, z1, hs1⟩ := tiOf_spec (hT _ _ ht)
  obtain ⟨i2, d2, z2, hs2⟩ := tiOf_spec (hT _ _ hu)
  obtain ⟨i3, d3, z3, hs3⟩ := tiOf_spec (hT _ _ hte)
  have hut : cf.P.underlying t = some (.slice E.e) := by
    have h1 := hs1.kind
    rw [hkt] at h1
    have h2 := hs1.und
    cases d1 <;> first
      | (simp only [kindD, TK.slice.injEq] at h1; subst h1; exact h2)
      | (simp only [kindD] at h1; cases h1)
  have hz3 : z3.cells.size = E.sz := by
    have := zero_den hs3 β
    rw [← this, hsz]
    simp [hzl]
  have hlenf : ∀ (l : List (List AT)), (∀ r ∈ l, r.length = te.size) → l.flatten.length = l.length * te.size := by
    intro l hl
    induction l with
    | nil => simp
    | cons r l ih => simp [hl r (List.mem_cons_self ..), ih fun q hq => hl q (List.mem_cons_of_mem _ hq), Nat.add_mul]; omega
  have hnl : (rows.flatten.map AT.val).length = m * E.sz := by
    rw [List.length_map, hlenf rows fun r hr => (H.clo r hr).1, H.len, hsz]
  have hget : ∀ (l : List (List AT)), (∀ r ∈ l, r.length = te.size) → ∀ q c, l.flatten[q]? = some c → ∃ i r j, l[i]? = some r ∧ r[j]? = some c ∧ q = i * te.size + j := by
    intro l hl
    induction l with
    | nil => intro q c hq; simp at hq
    | cons r l ih =>
      intro q c hq
      have hr := hl r (List.mem_cons_self ..)
      rw [List.flatten_cons] at hq
      by_cases hlt : q < te.size
      · rw [List.getElem?_append_left (by omega)] at hq
        exact ⟨0, r, q, rfl, hq, by omega⟩
      · rw [List.getElem?_append_right (by omega)] at hq
        obtain ⟨i, r', j, h1, h2, h3⟩ := ih (fun q hq => hl q (List.mem_cons_of_mem _ hq)) _ c hq
        exact ⟨i + 1, r', j, by simpa using h1, h2, by rw [Nat.add_mul]; omega⟩
  have hxe : a.eval x = .slice xo m xc := evalO_eval ha hx
  have hse : a.eval s = .slice E.ao E.n E.cap := evalO_eval ha hs
  have hfc : ∀ w'' : World, w''.heap = w.heap → (Builtin.firstCells E.sz m (.slice xo m xc)).run cf.P w'' = .ok (rows.flatten.map AT.val).toArray w'' := by
    intro w'' hh
    rcases H.at_ with h0 | ⟨ad, rfl, h2⟩
    · subst h0
      have hr0 : rows = [] := List.eq_nil_of_length_eq_zero H.len
      subst hr0
      cases xo with
      | none => rfl
      | some ad => simp [Builtin.firstCells, loadCells, loadCellsFrom]
    · refine run_firstCells_some (P := cf.P) w'' E.sz m ad m xc _ hnl fun q v hv => ?_
      rw [List.getElem?_map] at hv
      obtain ⟨c, hc, rfl⟩ := map_some hv
      obtain ⟨i, r, j, h3, h4, rfl⟩ := hget rows (fun r hr => (H.clo r hr).1) q c hc
      have := Snap.cell_sealed hw (h2 i r j c h3 h4)
      rw [World.cell?, hh]; exact this
  obtain ⟨ao', cap', w', hrun, hw', hc'⟩ := hw.append hA (t := t) (u := u) (ty := it.o.type) (x := .slice xo m xc) (m := m) (news := rows.flatten.map AT.val) hut hs2.und (slOrStr_ok (by rw [hs2.kind]; exact hku)) hs3.info hs3.zero
    (by rw [hs3.size, hsz]) hz3 (fun _ => rfl) hfc hnl
    (fun v hv => by
      obtain ⟨c, hc, rfl⟩ := List.mem_map.1 hv
      obtain ⟨r, hr, hcr⟩ := List.mem_flatten.1 hc
      exact AT.one_den β0 (List.all_eq_true.1 (hone r hr) c hcr)) (by simp only [maxLen]; exact hmax) (by rw [hs3.bytes]; exact hby)
  refine ⟨.a (.v (.slice ao' (E.n + m) cap')), σ, hp, _, nh, w', β, ?_, ha, hb.put (x := .a (.v (.slice ao' (E.n + m) cap'))) trivial d, hw', hk ao' cap' hc'⟩
  exact appendOf_run hop (by rw [hse, hxe]; exact hrun)

/-! ### Ghost steps: a nil slice is owned; a row, an array is sealed -/

/-- A nil slice may be taken for one's own. -/
theorem StW.nilArr {β : Nat → Addr} {w : World} (e sz : Nat) : StW cf σ hp A β w ↔ StW cf σ hp (A ++ [⟨none, 0, 0, e, sz, []⟩]) β w := by
  have hget : ∀ {i : Nat} {E : AE}, (A ++ [(⟨none, 0, 0, e, sz, []⟩ : AE)])[i]? = some E → A[i]? = some E ∨ E = ⟨none, 0, 0, e, sz, []⟩ := by
    intro i E hi
    by_cases hlt : i < A.length
    · rw [List.getElem?_append_left hlt] at hi; exact .inl hi
    · rw [List.getElem?_append_right (by omega)] at hi
      have := List.mem_of_getElem? hi
      exact .inr (by simpa using this)
  have hget' : ∀ {i : Nat} {E : AE}, A[i]? = some E → (A ++ [(⟨none, 0, 0, e, sz, []⟩ : AE)])[i]? = some E := by
    intro i E hi
    rw [List.getElem?_append_left (List.getElem?_eq_some_iff.1 hi).1]; exact hi
  constructor
  · intro h
    refine ⟨h.os, h.tape, h.output, h.size, h.fr, h.sealed, h.le, h.grow, h.loc, h.ro, h.inj, fun i E hE => ?_, fun i j E F hE hF hij g hg => ?_, fun i j E e' l hE hj => ?_⟩
    · rcases hget hE with h1 | rfl
      · exact h.arr i E h1
      · exact ⟨by simp, .inl ⟨rfl, rfl, rfl⟩⟩
    · rcases hget hE with h1 | rfl
      · rcases hget hF with h2 | rfl
        · exact h.arrd i j E F h1 h2 hij g hg
        · simp [AE.blk]
      · simp [AE.blk] at hg
    · rcases hget hE with h1 | rfl
      · exact h.arrh i j E e' l h1 hj
      · simp [AE.blk]
  · intro h
    exact ⟨h.os, h.tape, h.output, h.size, h.fr, h.sealed, h.le, h.grow, h.loc, h.ro, h.inj, fun i E hE => h.arr i E (hget' hE), fun i j E F hE hF => h.arrd i j E F (hget' hE) (hget' hF),
      fun i j E e' l hE => h.arrh i j E e' l (hget' hE)⟩

theorem oj_nilarr {l : List Item} (e sz : Nat) (h : OJ cf l Q σ env hp (A ++ [⟨none, 0, 0, e, sz, []⟩]) nh) : OJ cf l Q σ env hp A nh := by
  refine ⟨fun hb a β ha hex => ?_⟩
  have e1 : (fun w => StW cf σ hp A β w) = fun w => StW cf σ hp (A ++ [⟨none, 0, 0, e, sz, []⟩]) β w := by funext w; exact propext (StW.nilArr e sz)
  rw [e1]
  obtain ⟨w, hw⟩ := hex
  exact h.run hb a β ha ⟨w, (StW.nilArr e sz).1 hw⟩
theorem cj_nilarr {c : Code} (e sz : Nat) (h : CJ cf c Q σ env hp (A ++ [⟨none, 0, 0, e, sz, []⟩]) nh) : CJ cf c Q σ env hp A nh :=
  ⟨fun hb a β w ha hw => h.run hb a β w ha ((StW.nilArr e sz).1 hw)⟩

/-- What an array's being sealed means. -/
def ArrSealed (σ : Snap) (E : AE) : Prop := (E.ao = none ∧ E.n = 0) ∨ ∃ g, E.ao = some ⟨g, 0, none⟩ ∧ ∀ (j : Nat) x, E.xs[j]? = some x → σ.cell ⟨g, j, none⟩ = some x

theorem StW.sealArr {β : Nat → Addr} {w : World} (h : StW cf σ hp A β w) {i : Nat} {E : AE} (hi : A[i]? = some E) :
    ∃ σ', σ.le σ' ∧ ArrSealed σ' E ∧ StW cf σ' hp (A.eraseIdx i) β w := by
  have hE := h.arr i E hi
  have hget : ∀ {j : Nat} {F : AE}, (A.eraseIdx i)[j]? = some F → ∃ k, k ≠ i ∧ A[k]? = some F := by
    intro j F hj
    rw [List.getElem?_eraseIdx] at hj
    split at hj
    · exact ⟨j, by omega, hj⟩
    · exact ⟨j + 1, by omega, hj⟩
  have hgetd : ∀ {j k : Nat} {F G : AE}, (A.eraseIdx i)[j]? = some F → (A.eraseIdx i)[k]? = some G → j ≠ k → ∃ p q : Nat, p ≠ q ∧ A[p]? = some F ∧ A[q]? = some G := by
    intro j k F G hj hk hjk
    rw [List.getElem?_eraseIdx] at hj hk
    split at hj <;> split at hk
    · exact ⟨j, k, hjk, hj, hk⟩
    · exact ⟨j, k + 1, by omega, hj, hk⟩
    · exact ⟨j + 1, k, by omega, hj, hk⟩
    · exact ⟨j + 1, k + 1, by omega, hj, hk⟩
  rcases hE.2 with ⟨e1, e2, e3⟩ | ⟨g, cur, hg, hw, hnc, hcm, hcs, htk, hσ, hown⟩
  · refine ⟨σ, Snap.le_refl σ, .inl ⟨e1, e2⟩, h.os, h.tape, h.output, h.size, h.fr, h.sealed, h.le, h.grow, h.loc, h.ro, h.inj, fun j F hF => ?_, fun j k F G hF hG hjk => ?_, fun j k F e' l hF hk => ?_⟩
    · obtain ⟨q, _, hq⟩ := hget hF; exact h.arr q F hq
    · obtain ⟨p, q, hpq, hp', hq'⟩ := hgetd hF hG hjk; exact h.arrd p q F G hp' hq' hpq
    · obtain ⟨q, _, hq⟩ := hget hF; exact h.arrh q k F e' l hq hk
  · have hblk : E.blk = some g := by simp [AE.blk, hg]
    let σ' : Snap := fun b => if b = g then some (.cells cur E.e (0, 0)) else σ b
    have hle : σ.le σ' := by
      intro b o hb
      simp only [σ']
      rw [if_neg (fun hc => by subst hc; rw [hσ] at hb; cases hb)]; exact hb
    have hne : ∀ b, b ≠ g → σ' b = σ b := fun b hb => by simp only [σ']; rw [if_neg hb]
    refine ⟨σ', hle, .inr ⟨g, hg, fun j x hx => ?_⟩, h.os, h.tape, h.output, h.size, h.fr, fun b o hb => ?_, fun b o hb => hle b o (h.le b o hb), fun b hb => ?_, fun j e' l hj => ?_, fun j l hj q c hc => hle.cell (h.ro j l hj q c hc), h.inj, fun j F hF => ?_, fun j k F G hF hG hjk => ?_, fun j k F e' l hF hk => ?_⟩
    · simp only [Snap.cell, σ', if_true]
      rw [← htk, List.getElem?_take] at hx
      split at hx
      · simpa using hx
      · cases hx
    · by_cases hbg : b = g
      · subst hbg
        simp only [σ', if_true] at hb
        injection hb with hb
        rw [← hb]; exact hw
      · rw [hne b hbg] at hb; exact h.sealed b o hb
    · by_cases hbg : b = g
      · subst hbg; exact .inr hown
      · rw [hne b hbg] at hb; exact h.grow b hb
    · obtain ⟨g1, g2, g3, g4⟩ := h.loc j e' l hj
      exact ⟨g1, g2, by rw [hne _ (fun hc => h.arrh i j E e' l hi hj (by rw [hc]; exact hblk))]; exact g3, g4⟩
    · obtain ⟨q, hqi, hq⟩ := hget hF
      obtain ⟨q1, q2⟩ := h.arr q F hq
      refine ⟨q1, q2.imp id ?_⟩
      rintro ⟨g', cur', r1, r2, r3, r4, r5, r6, r7, r8⟩
      refine ⟨g', cur', r1, r2, r3, r4, r5, r6, ?_, r8⟩
      rw [hne g' (fun hc => h.arrd i q E F hi hq (fun e => hqi e.symm) g hblk (by simp [AE.blk, r1, hc]))]; exact r7
    · obtain ⟨p, q, hpq, hp', hq'⟩ := hgetd hF hG hjk; exact h.arrd p q F G hp' hq' hpq
    · obtain ⟨q, _, hq⟩ := hget hF; exact h.arrh q k F e' l hq hk

theorem cj_seal {c : Code} (i : Nat) {E : AE} {A' : List AE} (hi : A[i]? = some E) (hA : A.eraseIdx i = A') (h : ∀ σ', σ.le σ' → ArrSealed σ' E → CJ cf c Q σ' env hp A' nh) : CJ cf c Q σ env hp A nh := by
  subst hA
  refine ⟨fun hb a β w ha hw => ?_⟩
  obtain ⟨σ', h1, h2, h3⟩ := hw.sealArr hi
  exact (h σ' h1 h2).run hb a β w ha h3
theorem nj_seal {e : Exit} (i : Nat) {E : AE} {A' : List AE} (hi : A[i]? = some E) (hA : A.eraseIdx i = A') (h : ∀ σ', σ.le σ' → ArrSealed σ' E → NJ cf e Q σ' env hp A' nh) : NJ cf e Q σ env hp A nh := by
  subst hA
  refine ⟨fun hb a β w ha hw => ?_⟩
  obtain ⟨σ', h1, h2, h3⟩ := hw.sealArr hi
  exact (h σ' h1 h2).run hb a β w ha h3

/-- A list of operations without a draw may be looked at world by world. -/
def allFree : List Item → Bool
  | [] => true
  | it :: l => (match it.tag with | .free => true | _ => false) && allFree l

theorem run_by_world {P : Program} : ∀ (l : List Item) (E S : World → Prop) (a : Act), allFree l = true → (∀ w, S w → ∃ E' S' : World → Prop, S' w ∧ RunT P Q l E' S' a) → RunT P Q l E S a
  | [], _, _, _, _, h => fun w hS => by obtain ⟨_, S', h1, h2⟩ := h w hS; exact h2 w h1
  | it :: l, E, S, a, hf, h => by
    simp only [allFree, Bool.and_eq_true] at hf
    simp only [RunT]
    cases htag : it.tag with
    | free =>
      by_cases hw : wantedS it.guard a = true
      · rw [if_pos hw]
        intro w hS
        obtain ⟨E', S', h1, h2⟩ := h w hS
        simp only [RunT, if_pos hw, htag] at h2
        exact h2 w h1
      · rw [if_neg hw]
        refine run_by_world l E S _ hf.2 fun w hS => ?_
        obtain ⟨E', S', h1, h2⟩ := h w hS
        simp only [RunT, if_neg hw] at h2
        exact ⟨E', S', h1, h2⟩
    | _ => rw [htag] at hf; cases hf.1

theorem oj_seal {l : List Item} (i : Nat) {E : AE} {A' : List AE} (hf : allFree l = true) (hi : A[i]? = some E) (hA : A.eraseIdx i = A') (h : ∀ σ', σ.le σ' → ArrSealed σ' E → OJ cf l Q σ' env hp A' nh) : OJ cf l Q σ env hp A nh := by
  subst hA
  refine ⟨fun hb a β ha _ => run_by_world l _ _ a hf fun w hw => ?_⟩
  obtain ⟨σ', h1, h2, h3⟩ := hw.sealArr hi
  exact ⟨_, _, h3, (h σ' h1 h2).run hb a β ha ⟨w, h3⟩⟩

end
end Go.Sy
