/- Steps whose reckoning is told by hand: rows that are not written out. No program in sight. -/
import Derived.Test.YtadnijcgohflhaaDoorSyL
namespace Go.Sy
section
variable {cf : Cf} {Q : Exit → Act → World → Prop} {σ : Snap} {env : Env} {hp : HP} {A : List AE} {nh : Nat} {it : Item} {rest : List Item}

/-- A step that yields a value; what it yields is told. -/
theorem oj_valH {d : Nat} {T : List (Nat × TI)} (hT : TTok cf.P T) {x : SV} (h : stepOp T it.o.op env hp nh = some (.val x)) (hd : it.o.dst = some d) (hg : guardVal it.guard env = some true) (hN : Nat.blt d cf.N = true) (htag : (match it.tag with | .pure => false | _ => true) = true)
    (k : OJ cf rest Q σ ((d, x) :: env) hp A nh) : OJ cf (it :: rest) Q σ env hp A nh := by
  refine ⟨fun hb a β ha hex => ?_⟩
  exact (oj_valW x hd hg hN (step_ok (cf := cf) hT ha hb h).1 htag (fun hb a β ha w hw => (step_ok (cf := cf) hT ha hb h).2 w fun _ => ⟨σ, A, hw⟩) k).run hb a β ha hex

/-- A store into a row; what the row is then is told. -/
theorem oj_putH {T : List (Nat × TI)} (hT : TTok cf.P T) {i : Nat} {e : TypeId} {cs : List AT} (h : stepOp T it.o.op env hp nh = some (.put i e cs)) (hd : it.o.dst = none) (hg : guardVal it.guard env = some true) (htag : canSink it.tag = true)
    (k : OJ cf rest Q σ env ((i, .loc e, cs) :: hp) A nh) : OJ cf (it :: rest) Q σ env hp A nh := by
  refine ⟨fun hb a β ha hex => ?_⟩
  obtain ⟨hlt, ⟨cs0, h0⟩, hrun⟩ := step_ok (cf := cf) hT ha hb h (β := β)
  have hb' : Bd env ((i, .loc e, cs) :: hp) nh := hb.row (hb.hp i _ _ h0).1 hlt
  have key : ∀ w, StW cf σ hp A β w → ∀ Q', it.o.wq cf.P a w (fun a' w' => ∃ E' S' : World → Prop, S' w' ∧ (∀ x, S' x → E' x) ∧ RunT cf.P Q rest E' S' a') Q' := by
    intro w hw Q'
    unfold Oper.wq
    rw [hrun σ A w hw]
    have hw' := hw.store h0 (cs := cs)
    refine ⟨_, _, hw', fun _ h => h, ?_⟩
    rw [hd]
    exact k.run hb' a β ha ⟨_, hw'⟩
  simp only [RunT]
  rw [if_pos (guardVal_ok ha hg)]
  cases htag' : it.tag with
  | pure => rw [htag'] at htag; cases htag
  | quiet => rw [htag'] at htag; cases htag
  | keep => rw [htag'] at htag; cases htag
  | sink => exact fun w hw => key w hw _
  | free => exact fun w hw => key w hw _

/-- The address of an element of an array that stands in a row. -/
theorem oj_idx_row {d : Nat} {x i : Operand} {t : TypeId} (e len : Nat) (hut : cf.P.underlying t = some (.array len e)) {de : TypeDesc} (hue : cf.P.underlying e = some de) {h off : Nat} {k : IntKind} {m : Int} (hop : it.o.op = .indexAddr t x i) (hd : it.o.dst = some d)
    (hg : guardVal it.guard env = some true) (hN : Nat.blt d cf.N = true) (hx : evalO env x = some (.a (.p h off))) (hi : evalO env i = some (.a (.v (.int k m)))) (h0 : 0 ≤ m) (hm : m < len) (o : Nat) (ho : off + m.toNat * cf.P.cellsOf e = o)
    (hk : OJ cf rest Q σ ((d, .a (.p h o)) :: env) hp A nh) : OJ cf (it :: rest) Q σ env hp A nh := by
  subst ho
  refine ⟨fun hb => (oj_val (.a (.p h (off + m.toNat * cf.P.cellsOf e))) hd hg hN (show h < nh from (evalO_lt hb hx : SV.lt nh (.a (.p h off)))) (fun _ a β ha w => ?_) hk).run hb⟩
  have h2 : a.eval x = .pointer (some ((β h).add off)) := evalO_eval ha hx
  have h3 : a.eval i = .int k m := evalO_eval ha hi
  simp only [execOp, hop, h2, h3, Instr.indexAt, asIntOf, Instr.sureAddr, Sem.run_bind, Sem.run_pure, Result.andThen_ok, run_underlying hut, h0, hm, and_self, if_true, run_sizeB rfl hue]
  simp only [SV.den, AT.den, Addr.add_add]
/-- The address of an element of an array behind a plain pointer. -/
theorem oj_idx_ptr {d : Nat} {x i : Operand} {t : TypeId} (e len : Nat) (hut : cf.P.underlying t = some (.array len e)) {de : TypeDesc} (hue : cf.P.underlying e = some de) {ad : Addr} {k : IntKind} {m : Int} (hop : it.o.op = .indexAddr t x i) (hd : it.o.dst = some d)
    (hg : guardVal it.guard env = some true) (hN : Nat.blt d cf.N = true) (hx : evalO env x = some (.a (.v (.pointer (some ad))))) (hi : evalO env i = some (.a (.v (.int k m)))) (h0 : 0 ≤ m) (hm : m < len) (ad' : Addr) (ho : ad.add (m.toNat * cf.P.cellsOf e) = ad')
    (hk : OJ cf rest Q σ ((d, .a (.v (.pointer (some ad')))) :: env) hp A nh) : OJ cf (it :: rest) Q σ env hp A nh := by
  subst ho
  refine oj_val (.a (.v (.pointer (some (ad.add (m.toNat * cf.P.cellsOf e)))))) hd hg hN trivial (fun _ a β ha w => ?_) hk
  have h2 : a.eval x = .pointer (some ad) := evalO_eval ha hx
  have h3 : a.eval i = .int k m := evalO_eval ha hi
  simp only [execOp, hop, h2, h3, Instr.indexAt, asIntOf, Instr.sureAddr, Sem.run_bind, Sem.run_pure, Result.andThen_ok, run_underlying hut, h0, hm, and_self, if_true, run_sizeB rfl hue]
  rfl

/-- A load of one cell of what is sealed. -/
theorem oj_ldS {d t : Nat} {x : Operand} {T : List (Nat × TI)} (hT : TTok cf.P T) {ti : TI} {ad : Addr} {c : AT} (hop : it.o.op = .load t x) (hd : it.o.dst = some d) (hg : guardVal it.guard env = some true) (hN : Nat.blt d cf.N = true)
    (htag : (match it.tag with | .pure => false | _ => true) = true) (hx : evalO env x = some (.a (.v (.pointer (some ad))))) (ht : tget T t = some ti) (hag : ti.agg = false)
    (hv : σ.cell ad = some c.val) (hc : c.lt 0) (k : OJ cf rest Q σ ((d, .a c) :: env) hp A nh) : OJ cf (it :: rest) Q σ env hp A nh := by
  refine oj_valW (.a c) hd hg hN (AT.lt_mono (Nat.zero_le _) hc) htag (fun _ a β ha w hw => ?_) k
  obtain ⟨inf, d', z, hs⟩ := tiOf_spec (hT _ _ ht)
  have hcell := Snap.cell_sealed hw hv
  have hx' : a.eval x = .pointer (some ad) := evalO_eval ha hx
  have hload : (load ad).run cf.P w = .ok c.val w := by rw [run_load, hcell]
  simp only [execOp, hop, Instr.loadAt, hx', Instr.sureAddr, loadVar, Sem.run_bind, Sem.run_pure, Result.andThen_ok, run_isAgg hs.und, hs.agg, hag, Bool.false_eq_true, if_false, hload]
  simp only [SV.den, AT.den_val hc β]

/-- A row's cells in other words. -/
theorem StW.rowset {β : Nat → Addr} {w : World} {i : Nat} {e : TypeId} {cs cs' : List AT} (h0 : hp.get i = some (.loc e, cs)) (heq : cs.map (AT.den β) = cs'.map (AT.den β)) (h : StW cf σ hp A β w) : StW cf σ ((i, .loc e, cs') :: hp) A β w := by
  have hget : ∀ {j : Nat} {k : HK} {l : List AT}, HP.get ((i, HK.loc e, cs') :: hp) j = some (k, l) → (j = i ∧ k = .loc e ∧ l = cs') ∨ hp.get j = some (k, l) := by
    intro j k l hj
    rw [HP.get_cons] at hj
    by_cases hij : i = j
    · rw [if_pos hij] at hj
      injection hj with hj
      simp only [Prod.mk.injEq] at hj
      exact .inl ⟨hij.symm, hj.1.symm, hj.2.symm⟩
    · rw [if_neg hij] at hj; exact .inr hj
  refine ⟨h.os, h.tape, h.output, h.size, h.fr, h.sealed, h.le, h.grow, fun j e' l hj => ?_, fun j l hj => ?_, fun j k e1 e2 l1 l2 hj hk => ?_, h.arr, h.arrd, fun j k E e' l hE hk => ?_⟩
  · rcases hget hj with ⟨rfl, hk, rfl⟩ | hj'
    · injection hk with hk
      subst hk
      rw [← heq]
      exact h.loc _ _ _ h0
    · exact h.loc j e' l hj'
  · rcases hget hj with ⟨_, hk, _⟩ | hj'
    · cases hk
    · exact h.ro j l hj'
  · rcases hget hj with ⟨rfl, hj1, rfl⟩ | hj' <;> rcases hget hk with ⟨rfl, hk1, rfl⟩ | hk'
    · intro _; rfl
    · exact h.inj _ _ _ _ _ _ h0 hk'
    · exact h.inj _ _ _ _ _ _ hj' h0
    · exact h.inj _ _ _ _ _ _ hj' hk'
  · rcases hget hk with ⟨rfl, _, rfl⟩ | hk'
    · exact h.arrh j _ E e cs hE h0
    · exact h.arrh j k E e' l hE hk'

theorem nj_rowset {ex : Exit} (i : Nat) (cs' : List AT) {e : TypeId} {cs : List AT} (h0 : hp.get i = some (.loc e, cs)) (heq : ∀ β, cs.map (AT.den β) = cs'.map (AT.den β)) (hlt : ∀ c ∈ cs', c.lt nh) (k : NJ cf ex Q σ env ((i, .loc e, cs') :: hp) A nh) : NJ cf ex Q σ env hp A nh :=
  ⟨fun hb a β w ha hw => k.run (hb.row (hb.hp i _ _ h0).1 hlt) a β w ha (hw.rowset h0 (heq β))⟩
theorem cj_rowset {c : Code} (i : Nat) (cs' : List AT) {e : TypeId} {cs : List AT} (h0 : hp.get i = some (.loc e, cs)) (heq : ∀ β, cs.map (AT.den β) = cs'.map (AT.den β)) (hlt : ∀ c ∈ cs', c.lt nh) (k : CJ cf c Q σ env ((i, .loc e, cs') :: hp) A nh) : CJ cf c Q σ env hp A nh :=
  ⟨fun hb a β w ha hw => k.run (hb.row (hb.hp i _ _ h0).1 hlt) a β w ha (hw.rowset h0 (heq β))⟩
end

theorem takeAt_all : ∀ (cs : List AT) (n : Nat), cs.length = n → takeAt cs 0 n = some cs
  | [], 0, _ => rfl
  | [], n + 1, h => by simp at h
  | c :: cs, 0, h => by simp at h
  | c :: cs, n + 1, h => by
    simp only [takeAt, takeAt_all cs n (by simpa using h), Option.map_some]

theorem lay_all : ∀ (cs ns : List AT), ns.length = cs.length → lay cs 0 ns = some ns
  | [], [], _ => rfl
  | [], n :: ns, h => by simp at h
  | c :: cs, [], h => by simp at h
  | c :: cs, n :: ns, h => by
    simp only [lay, lay_all cs ns (by simpa using h), Option.map_some]

theorem lay_one : ∀ (cs : List AT) (off : Nat) (c : AT), off < cs.length → lay cs off [c] = some (cs.set off c)
  | [], off, c, h => by simp at h
  | x :: cs, 0, c, h => by cases cs <;> simp [lay]
  | x :: cs, off + 1, c, h => by
    simp only [lay, lay_one cs off c (by simpa using h), Option.map_some, List.set_cons_succ]

section
variable {cf : Cf} {Q : Exit → Act → World → Prop} {σ : Snap} {env : Env} {hp : HP} {A : List AE} {nh : Nat} {it : Item} {rest : List Item}

/-- A store of one cell into a row that is not written out. -/
theorem oj_store1 {T : List (Nat × TI)} (hT : TTok cf.P T) {t : TypeId} {x y : Operand} {ti : TI} {h off : Nat} {e : TypeId} {cs : List AT} {c : AT} (hop : it.o.op = .store t x y) (hd : it.o.dst = none) (hg : guardVal it.guard env = some true) (htag : canSink it.tag = true)
    (hx : evalO env x = some (.a (.p h off))) (hy : evalO env y = some (.a c)) (hone : c.one = true) (ht : tget T t = some ti) (hsz : Nat.beq 1 ti.size = true) (hrow : hp.get h = some (.loc e, cs)) (hoff : off < cs.length)
    (k : OJ cf rest Q σ env ((h, .loc e, cs.set off c) :: hp) A nh) : OJ cf (it :: rest) Q σ env hp A nh := by
  refine oj_putH hT (i := h) (e := e) (cs := cs.set off c) ?_ hd hg htag k
  rw [hop]
  simp only [stepOp, hx, ht, hy, Option.bind_some, SV.cells, hone, cond_true, hrow, List.length_singleton, hsz, List.all_cons, List.all_nil, Bool.and_true, lay_one cs off c hoff, Option.map_some]

/-- A load of a whole row. -/
theorem oj_loadAll {T : List (Nat × TI)} (hT : TTok cf.P T) {d : Nat} {t : TypeId} {x : Operand} {ti : TI} {h : Nat} {k' : HK} {cs : List AT} (hop : it.o.op = .load t x) (hd : it.o.dst = some d) (hg : guardVal it.guard env = some true) (hN : Nat.blt d cf.N = true)
    (htag : (match it.tag with | .pure => false | _ => true) = true) (hx : evalO env x = some (.a (.p h 0))) (ht : tget T t = some ti) (hag : ti.agg = true) (hrow : hp.get h = some (k', cs)) (hl : cs.length = ti.size)
    (k : OJ cf rest Q σ ((d, .agg cs) :: env) hp A nh) : OJ cf (it :: rest) Q σ env hp A nh := by
  refine oj_valH hT (x := .agg cs) ?_ hd hg hN htag k
  rw [hop]
  simp only [stepOp, hx, ht, hrow, hag, cond_true, takeAt_all cs ti.size hl, Option.map_some]

/-- A store of a whole row. -/
theorem oj_storeAll {T : List (Nat × TI)} (hT : TTok cf.P T) {t : TypeId} {x y : Operand} {ti : TI} {h : Nat} {e : TypeId} {cs ns : List AT} (hop : it.o.op = .store t x y) (hd : it.o.dst = none) (hg : guardVal it.guard env = some true) (htag : canSink it.tag = true)
    (hx : evalO env x = some (.a (.p h 0))) (hy : evalO env y = some (.agg ns)) (hone : ns.all AT.one = true) (ht : tget T t = some ti) (hsz : ns.length = ti.size) (hrow : hp.get h = some (.loc e, cs)) (hl : ns.length = cs.length)
    (k : OJ cf rest Q σ env ((h, .loc e, ns) :: hp) A nh) : OJ cf (it :: rest) Q σ env hp A nh := by
  refine oj_putH hT (i := h) (e := e) (cs := ns) ?_ hd hg htag k
  rw [hop]
  simp only [stepOp, hx, ht, hy, Option.bind_some, SV.cells, hrow, hsz, Nat.beq_refl, hone, Bool.and_self, cond_true, lay_all cs ns hl, Option.map_some]
end

section
variable {cf : Cf} {Q : Exit → Act → World → Prop} {σ : Snap} {env : Env} {hp : HP} {A : List AE} {nh : Nat} {it : Item} {rest : List Item}
/-- An array, each of its elements written out. -/
theorem oj_buildArr {T : List (Nat × TI)} (hT : TTok cf.P T) {d : Nat} {t e len : Nat} {parts : Array (Nat × Operand)} {ti te : TI} {l : List AT} (hut : cf.P.underlying t = some (.array len e)) (hop : it.o.op = .build t parts) (hd : it.o.dst = some d) (hg : guardVal it.guard env = some true)
    (hN : Nat.blt d cf.N = true) (ht : tget T t = some ti) (hte : tget T e = some te) (hl : fillS env te.size 0 parts.toList = some l) (hlen : Nat.beq ti.zero.length (parts.toList.length * te.size) = true)
    (k : OJ cf rest Q σ ((d, .agg l) :: env) hp A nh) : OJ cf (it :: rest) Q σ env hp A nh := by
  refine ⟨fun hb a β ha hex => ?_⟩
  obtain ⟨h1, h2, h3⟩ := fillS_ok (β := β) ha hb te.size parts.toList 0 l hl
  refine (oj_val (cf := cf) (.agg l) hd hg hN h2 (fun hb a β ha w => ?_) k).run hb a β ha hex
  obtain ⟨inf, d', z, hs⟩ := tiOf_spec (hT _ _ ht)
  obtain ⟨ie, de, ze, hse⟩ := tiOf_spec (hT _ _ hte)
  obtain ⟨h1, h2, h3⟩ := fillS_ok (β := β) ha hb te.size parts.toList 0 l hl
  have hparts : (Array.map (fun x => match x with | (i, x) => (i, a.eval x)) parts).toList = parts.toList.map fun p => (p.1, a.eval p.2) := by simp
  have hz : z.cells.size = (0 + parts.toList.length) * te.size := by
    have := zero_den hs β
    rw [← this, Nat.zero_add, ← Nat.eq_of_beq_eq_true hlen]
    simp
  have hf := h3 z.cells hz
  simp only [Nat.zero_mul, List.take_zero, List.nil_append] at hf
  simp only [execOp, hop, Instr.build, Sem.run_bind, run_zero hs.info hs.zero, run_underlying hut, Result.andThen_ok, run_size hse.info, hse.size, hparts, hf, Sem.run_pure]
  rfl
end
end Go.Sy
