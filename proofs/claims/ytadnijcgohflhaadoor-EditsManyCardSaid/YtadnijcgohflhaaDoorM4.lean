/- Parts of the proof of CEditsMany: SyM, Va, SyN, SyO, SyP. No conditions. -/
import Derived.Test.YtadnijcgohflhaaDoorM3
import Derived.MapKept
import Derived.RangeFuncRecord
/- Steps whose reckoning is told by hand: rows that are not written out. No program in sight. -/
namespace Go.Sy
section
variable {cf : Cf} {Q : Exit → Act → World → Prop} {σ : Snap} {env : Env} {hp : HP} {A : List AE} {nh : Nat} {it : Item} {rest : List Item}

/-- A step that yields a value; what it yields is told. -/
theorem oj_valH {d : Nat} {T : List (Nat × TI)} (hT : TTok cf.P T) {x : SV} (h : stepOp T it.o.op env hp nh = some (.val x)) (hd : it.o.dst = some d) (hg : guardVal it.guard env = some true) (hN : Nat.blt d cf.N = true) (htag : (match it.tag with | .pure => false | _ => true) = true)
    (k : OJ cf rest Q σ ((d, x) :: env) hp A nh) : OJ cf (it :: rest) Q σ env hp A nh := by
  refine ⟨fun hb a β ha hex => ?_⟩
  exact (oj_valW x hd hg hN (step_ok (cf := cf) hT ha hb h).1 htag (fun hb a β ha w hw => (step_ok (cf := cf) hT ha hb h).2 w fun _ => ⟨σ, A, hw⟩) k).run hb a β ha hex

/-- A store into a row; what the row is then is told. -/
theorem oj_putH {T : List (Nat × TI)} (hT : TTok cf.P T) {i : Nat} {e : TypeId} {cs : List AT} (h : stepOp T it.o.op env hp nh = some (.put i e cs)) (hd : it.o.dst = none) (hg : guardVal it.guard env = some true) (htag : canSink it.tag = true)
    (k : OJ cf rest Q σ env ((i, .loc e, cs) :: hp) A nh) : OJ cf (it :: rest) Q σ env hp A nh := by
  refine ⟨fun hb a β ha hex => ?_⟩
  obtain ⟨hlt, ⟨cs0, h0⟩, hrun⟩ := step_ok (cf := cf) hT ha hb h (β := β)
  have hb' : Bd env ((i, .loc e, cs) :: hp) nh := hb.row (hb.hp i _ _ h0).1 hlt
  have key : ∀ w, StW cf σ hp A β w → ∀ Q', it.o.wq cf.P a w (fun a' w' => ∃ E' S' : World → Prop, S' w' ∧ (∀ x, S' x → E' x) ∧ RunT cf.P Q rest E' S' a') Q' := by
    intro w hw Q'
    unfold Oper.wq
    rw [hrun σ A w hw]
    have hw' := hw.store h0 (cs := cs)
    refine ⟨_, _, hw', fun _ h => h, ?_⟩
    rw [hd]
    exact k.run hb' a β ha ⟨_, hw'⟩
  simp only [RunT]
  rw [if_pos (guardVal_ok ha hg)]
  cases htag' : it.tag with
  | pure => rw [htag'] at htag; cases htag
  | quiet => rw [htag'] at htag; cases htag
  | keep => rw [htag'] at htag; cases htag
  | sink => exact fun w hw => key w hw _
  | free => exact fun w hw => key w hw _

/-- The address of an element of an array that stands in a row. -/
theorem oj_idx_row {d : Nat} {x i : Operand} {t : TypeId} (e len : Nat) (hut : cf.P.underlying t = some (.array len e)) {de : TypeDesc} (hue : cf.P.underlying e = some de) {h off : Nat} {k : IntKind} {m : Int} (hop : it.o.op = .indexAddr t x i) (hd : it.o.dst = some d)
    (hg : guardVal it.guard env = some true) (hN : Nat.blt d cf.N = true) (hx : evalO env x = some (.a (.p h off))) (hi : evalO env i = some (.a (.v (.int k m)))) (h0 : 0 ≤ m) (hm : m < len) (o : Nat) (ho : off + m.toNat * cf.P.cellsOf e = o)
    (hk : OJ cf rest Q σ ((d, .a (.p h o)) :: env) hp A nh) : OJ cf (it :: rest) Q σ env hp A nh := by
  subst ho
  refine ⟨fun hb => (oj_val (.a (.p h (off + m.toNat * cf.P.cellsOf e))) hd hg hN (show h < nh from (evalO_lt hb hx : SV.lt nh (.a (.p h off)))) (fun _ a β ha w => ?_) hk).run hb⟩
  have h2 : a.eval x = .pointer (some ((β h).add off)) := evalO_eval ha hx
  have h3 : a.eval i = .int k m := evalO_eval ha hi
  simp only [execOp, hop, h2, h3, Instr.indexAt, asIntOf, Instr.sureAddr, Sem.run_bind, Sem.run_pure, Result.andThen_ok, run_underlying hut, h0, hm, and_self, if_true, run_sizeB rfl hue]
  simp only [SV.den, AT.den, Addr.add_add]
/-- The address of an element of an array behind a plain pointer. -/
theorem oj_idx_ptr {d : Nat} {x i : Operand} {t : TypeId} (e len : Nat) (hut : cf.P.underlying t = some (.array len e)) {de : TypeDesc} (hue : cf.P.underlying e = some de) {ad : Addr} {k : IntKind} {m : Int} (hop : it.o.op = .indexAddr t x i) (hd : it.o.dst = some d)
    (hg : guardVal it.guard env = some true) (hN : Nat.blt d cf.N = true) (hx : evalO env x = some (.a (.v (.pointer (some ad))))) (hi : evalO env i = some (.a (.v (.int k m)))) (h0 : 0 ≤ m) (hm : m < len) (ad' : Addr) (ho : ad.add (m.toNat * cf.P.cellsOf e) = ad')
    (hk : OJ cf rest Q σ ((d, .a (.v (.pointer (some ad')))) :: env) hp A nh) : OJ cf (it :: rest) Q σ env hp A nh := by
  subst ho
  refine oj_val (.a (.v (.pointer (some (ad.add (m.toNat * cf.P.cellsOf e)))))) hd hg hN trivial (fun _ a β ha w => ?_) hk
  have h2 : a.eval x = .pointer (some ad) := evalO_eval ha hx
  have h3 : a.eval i = .int k m := evalO_eval ha hi
  simp only [execOp, hop, h2, h3, Instr.indexAt, asIntOf, Instr.sureAddr, Sem.run_bind, Sem.run_pure, Result.andThen_ok, run_underlying hut, h0, hm, and_self, if_true, run_sizeB rfl hue]
  rfl

/-- A load of one cell of what is sealed. -/
theorem oj_ldS {d t : Nat} {x : Operand} {T : List (Nat × TI)} (hT : TTok cf.P T) {ti : TI} {ad : Addr} {c : AT} (hop : it.o.op = .load t x) (hd : it.o.dst = some d) (hg : guardVal it.guard env = some true) (hN : Nat.blt d cf.N = true)
    (htag : (match it.tag with | .pure => false | _ => true) = true) (hx : evalO env x = some (.a (.v (.pointer (some ad))))) (ht : tget T t = some ti) (hag : ti.agg = false)
    (hv : σ.cell ad = some c.val) (hc : c.lt 0) (k : OJ cf rest Q σ ((d, .a c) :: env) hp A nh) : OJ cf (it :: rest) Q σ env hp A nh := by
  refine oj_valW (.a c) hd hg hN (AT.lt_mono (Nat.zero_le _) hc) htag (fun _ a β ha w hw => ?_) k
  obtain ⟨inf, d', z, hs⟩ := tiOf_spec (hT _ _ ht)
  have hcell := Snap.cell_sealed hw hv
  have hx' : a.eval x = .pointer (some ad) := evalO_eval ha hx
  have hload : (load ad).run cf.P w = .ok c.val w := by rw [run_load, hcell]
  simp only [execOp, hop, Instr.loadAt, hx', Instr.sureAddr, loadVar, Sem.run_bind, Sem.run_pure, Result.andThen_ok, run_isAgg hs.und, hs.agg, hag, Bool.false_eq_true, if_false, hload]
  simp only [SV.den, AT.den_val hc β]

/-- A row's cells in other words. -/
theorem StW.rowset {β : Nat → Addr} {w : World} {i : Nat} {e : TypeId} {cs cs' : List AT} (h0 : hp.get i = some (.loc e, cs)) (heq : cs.map (AT.den β) = cs'.map (AT.den β)) (h : StW cf σ hp A β w) : StW cf σ ((i, .loc e, cs') :: hp) A β w := by
  have hget : ∀ {j : Nat} {k : HK} {l : List AT}, HP.get ((i, HK.loc e, cs') :: hp) j = some (k, l) → (j = i ∧ k = .loc e ∧ l = cs') ∨ hp.get j = some (k, l) := by
    intro j k l hj
    rw [HP.get_cons] at hj
    by_cases hij : i = j
    · rw [if_pos hij] at hj
      injection hj with hj
      simp only [Prod.mk.injEq] at hj
      exact .inl ⟨hij.symm, hj.1.symm, hj.2.symm⟩
    · rw [if_neg hij] at hj; exact .inr hj
  refine ⟨h.os, h.tape, h.output, h.size, h.fr, h.sealed, h.le, h.grow, fun j e' l hj => ?_, fun j l hj => ?_, fun j k e1 e2 l1 l2 hj hk => ?_, h.arr, h.arrd, fun j k E e' l hE hk => ?_⟩
  · rcases hget hj with ⟨rfl, hk, rfl⟩ | hj'
    · injection hk with hk
      subst hk
      rw [← heq]
      exact h.loc _ _ _ h0
    · exact h.loc j e' l hj'
  · rcases hget hj with ⟨_, hk, _⟩ | hj'
    · cases hk
    · exact h.ro j l hj'
  · rcases hget hj with ⟨rfl, hj1, rfl⟩ | hj' <;> rcases hget hk with ⟨rfl, hk1, rfl⟩ | hk'
    · intro _; rfl
    · exact h.inj _ _ _ _ _ _ h0 hk'
    · exact h.inj _ _ _ _ _ _ hj' h0
    · exact h.inj _ _ _ _ _ _ hj' hk'
  · rcases hget hk with ⟨rfl, _, rfl⟩ | hk'
    · exact h.arrh j _ E e cs hE h0
    · exact h.arrh j k E e' l hE hk'

theorem nj_rowset {ex : Exit} (i : Nat) (cs' : List AT) {e : TypeId} {cs : List AT} (h0 : hp.get i = some (.loc e, cs)) (heq : ∀ β, cs.map (AT.den β) = cs'.map (AT.den β)) (hlt : ∀ c ∈ cs', c.lt nh) (k : NJ cf ex Q σ env ((i, .loc e, cs') :: hp) A nh) : NJ cf ex Q σ env hp A nh :=
  ⟨fun hb a β w ha hw => k.run (hb.row (hb.hp i _ _ h0).1 hlt) a β w ha (hw.rowset h0 (heq β))⟩
theorem cj_rowset {c : Code} (i : Nat) (cs' : List AT) {e : TypeId} {cs : List AT} (h0 : hp.get i = some (.loc e, cs)) (heq : ∀ β, cs.map (AT.den β) = cs'.map (AT.den β)) (hlt : ∀ c ∈ cs', c.lt nh) (k : CJ cf c Q σ env ((i, .loc e, cs') :: hp) A nh) : CJ cf c Q σ env hp A nh :=
  ⟨fun hb a β w ha hw => k.run (hb.row (hb.hp i _ _ h0).1 hlt) a β w ha (hw.rowset h0 (heq β))⟩
end

theorem takeAt_all : ∀ (cs : List AT) (n : Nat), cs.length = n → takeAt cs 0 n = some cs
  | [], 0, _ => rfl
  | [], n + 1, h => by simp at h
  | c :: cs, 0, h => by simp at h
  | c :: cs, n + 1, h => by
    simp only [takeAt, takeAt_all cs n (by simpa using h), Option.map_some]

theorem lay_all : ∀ (cs ns : List AT), ns.length = cs.length → lay cs 0 ns = some ns
  | [], [], _ => rfl
  | [], n :: ns, h => by simp at h
  | c :: cs, [], h => by simp at h
  | c :: cs, n :: ns, h => by
    simp only [lay, lay_all cs ns (by simpa using h), Option.map_some]

theorem lay_one : ∀ (cs : List AT) (off : Nat) (c : AT), off < cs.length → lay cs off [c] = some (cs.set off c)
  | [], off, c, h => by simp at h
  | x :: cs, 0, c, h => by cases cs <;> simp [lay]
  | x :: cs, off + 1, c, h => by
    simp only [lay, lay_one cs off c (by simpa using h), Option.map_some, List.set_cons_succ]

section
variable {cf : Cf} {Q : Exit → Act → World → Prop} {σ : Snap} {env : Env} {hp : HP} {A : List AE} {nh : Nat} {it : Item} {rest : List Item}

/-- A store of one cell into a row that is not written out. -/
theorem oj_store1 {T : List (Nat × TI)} (hT : TTok cf.P T) {t : TypeId} {x y : Operand} {ti : TI} {h off : Nat} {e : TypeId} {cs : List AT} {c : AT} (hop : it.o.op = .store t x y) (hd : it.o.dst = none) (hg : guardVal it.guard env = some true) (htag : canSink it.tag = true)
    (hx : evalO env x = some (.a (.p h off))) (hy : evalO env y = some (.a c)) (hone : c.one = true) (ht : tget T t = some ti) (hsz : Nat.beq 1 ti.size = true) (hrow : hp.get h = some (.loc e, cs)) (hoff : off < cs.length)
    (k : OJ cf rest Q σ env ((h, .loc e, cs.set off c) :: hp) A nh) : OJ cf (it :: rest) Q σ env hp A nh := by
  refine oj_putH hT (i := h) (e := e) (cs := cs.set off c) ?_ hd hg htag k
  rw [hop]
  simp only [stepOp, hx, ht, hy, Option.bind_some, SV.cells, hone, cond_true, hrow, List.length_singleton, hsz, List.all_cons, List.all_nil, Bool.and_true, lay_one cs off c hoff, Option.map_some]

/-- A load of a whole row. -/
theorem oj_loadAll {T : List (Nat × TI)} (hT : TTok cf.P T) {d : Nat} {t : TypeId} {x : Operand} {ti : TI} {h : Nat} {k' : HK} {cs : List AT} (hop : it.o.op = .load t x) (hd : it.o.dst = some d) (hg : guardVal it.guard env = some true) (hN : Nat.blt d cf.N = true)
    (htag : (match it.tag with | .pure => false | _ => true) = true) (hx : evalO env x = some (.a (.p h 0))) (ht : tget T t = some ti) (hag : ti.agg = true) (hrow : hp.get h = some (k', cs)) (hl : cs.length = ti.size)
    (k : OJ cf rest Q σ ((d, .agg cs) :: env) hp A nh) : OJ cf (it :: rest) Q σ env hp A nh := by
  refine oj_valH hT (x := .agg cs) ?_ hd hg hN htag k
  rw [hop]
  simp only [stepOp, hx, ht, hrow, hag, cond_true, takeAt_all cs ti.size hl, Option.map_some]

/-- A store of a whole row. -/
theorem oj_storeAll {T : List (Nat × TI)} (hT : TTok cf.P T) {t : TypeId} {x y : Operand} {ti : TI} {h : Nat} {e : TypeId} {cs ns : List AT} (hop : it.o.op = .store t x y) (hd : it.o.dst = none) (hg : guardVal it.guard env = some true) (htag : canSink it.tag = true)
    (hx : evalO env x = some (.a (.p h 0))) (hy : evalO env y = some (.agg ns)) (hone : ns.all AT.one = true) (ht : tget T t = some ti) (hsz : ns.length = ti.size) (hrow : hp.get h = some (.loc e, cs)) (hl : ns.length = cs.length)
    (k : OJ cf rest Q σ env ((h, .loc e, ns) :: hp) A nh) : OJ cf (it :: rest) Q σ env hp A nh := by
  refine oj_putH hT (i := h) (e := e) (cs := ns) ?_ hd hg htag k
  rw [hop]
  simp only [stepOp, hx, ht, hy, Option.bind_some, SV.cells, hrow, hsz, Nat.beq_refl, hone, Bool.and_self, cond_true, lay_all cs ns hl, Option.map_some]
end

section
variable {cf : Cf} {Q : Exit → Act → World → Prop} {σ : Snap} {env : Env} {hp : HP} {A : List AE} {nh : Nat} {it : Item} {rest : List Item}
/-- An array, each of its elements written out. -/
theorem oj_buildArr {T : List (Nat × TI)} (hT : TTok cf.P T) {d : Nat} {t e len : Nat} {parts : Array (Nat × Operand)} {ti te : TI} {l : List AT} (hut : cf.P.underlying t = some (.array len e)) (hop : it.o.op = .build t parts) (hd : it.o.dst = some d) (hg : guardVal it.guard env = some true)
    (hN : Nat.blt d cf.N = true) (ht : tget T t = some ti) (hte : tget T e = some te) (hl : fillS env te.size 0 parts.toList = some l) (hlen : Nat.beq ti.zero.length (parts.toList.length * te.size) = true)
    (k : OJ cf rest Q σ ((d, .agg l) :: env) hp A nh) : OJ cf (it :: rest) Q σ env hp A nh := by
  refine ⟨fun hb a β ha hex => ?_⟩
  obtain ⟨h1, h2, h3⟩ := fillS_ok (β := β) ha hb te.size parts.toList 0 l hl
  refine (oj_val (cf := cf) (.agg l) hd hg hN h2 (fun hb a β ha w => ?_) k).run hb a β ha hex
  obtain ⟨inf, d', z, hs⟩ := tiOf_spec (hT _ _ ht)
  obtain ⟨ie, de, ze, hse⟩ := tiOf_spec (hT _ _ hte)
  obtain ⟨h1, h2, h3⟩ := fillS_ok (β := β) ha hb te.size parts.toList 0 l hl
  have hparts : (Array.map (fun x => match x with | (i, x) => (i, a.eval x)) parts).toList = parts.toList.map fun p => (p.1, a.eval p.2) := by simp
  have hz : z.cells.size = (0 + parts.toList.length) * te.size := by
    have := zero_den hs β
    rw [← this, Nat.zero_add, ← Nat.eq_of_beq_eq_true hlen]
    simp
  have hf := h3 z.cells hz
  simp only [Nat.zero_mul, List.take_zero, List.nil_append] at hf
  simp only [execOp, hop, Instr.build, Sem.run_bind, run_zero hs.info hs.zero, run_underlying hut, Result.andThen_ok, run_size hse.info, hse.size, hparts, hf, Sem.run_pure]
  rfl
end
end Go.Sy
/- Values as trees, and how they lie in sealed memory. No program in sight. -/
namespace Go.Sy

/-! ### Strings as lists of bytes -/

def mkB (l : List UInt8) : ByteArray := ⟨l.toArray⟩
theorem mkB_self (s : ByteArray) : mkB s.data.toList = s := rfl
theorem mkB_ex (s : ByteArray) : ∃ l, s = mkB l := ⟨s.data.toList, rfl⟩
@[simp] theorem mkB_size (l : List UInt8) : (mkB l).size = l.length := by simp [mkB, ByteArray.size]
@[simp] theorem mkB_list (l : List UInt8) : (mkB l).data.toList = l := rfl
theorem mkB_extract (l : List UInt8) (a b : Nat) : (mkB l).extract a b = mkB ((l.take b).drop a) := by
  apply ByteArray.ext
  rw [ByteArray.data_extract]
  apply Array.ext'
  simp [mkB, List.extract_eq_take_drop, List.drop_take]
theorem mkB_inj {a b : List UInt8} (h : mkB a = mkB b) : a = b := by
  have := congrArg (fun s : ByteArray => s.data.toList) h
  simpa using this

def AllLt (n : Nat) : List AT → Prop
  | [] => True
  | c :: l => c.lt n ∧ AllLt n l
theorem AllLt.of {n : Nat} : ∀ {l : List AT}, AllLt n l → ∀ c ∈ l, c.lt n
  | [], _, _, h => by cases h
  | y :: l, h, z, hz => by
    cases hz with
    | head => exact h.1
    | tail _ hz => exact AllLt.of h.2 z hz

structure GDec where
  neg : Bool
  dg : ByteArray
  ex : Int
deriving DecidableEq

inductive GVal where
  | mk (kind : Int) (b : Bool) (n : GDec) (s : ByteArray) (l : List GVal) (ks : List ByteArray) (vs : List GVal)

namespace GVal
def kind : GVal → Int | mk k _ _ _ _ _ _ => k
def b : GVal → Bool | mk _ b _ _ _ _ _ => b
def n : GVal → GDec | mk _ _ n _ _ _ _ => n
def s : GVal → ByteArray | mk _ _ _ s _ _ _ => s
def l : GVal → List GVal | mk _ _ _ _ l _ _ => l
def ks : GVal → List ByteArray | mk _ _ _ _ _ ks _ => ks
def vs : GVal → List GVal | mk _ _ _ _ _ _ vs => vs
end GVal

def decCells (d : GDec) : List AT := [.b d.neg, .v (.string d.dg), .v (.int .i64 d.ex)]

theorem decCells_lt (n : Nat) (d : GDec) : ∀ c ∈ decCells d, c.lt n := by simp [decCells, AT.lt]

def keyRow (k : ByteArray) (r : List AT) : List AT := .v (.string k) :: r

def keyRows : List ByteArray → List (List AT) → List (List AT)
  | k :: ks, r :: rs => keyRow k r :: keyRows ks rs
  | _, _ => []

/-- What one may take for granted of any value that is at hand. -/
def mostLen : Nat := 140737488351232

mutual
/-- The value's cells. -/
def RepV (σ : Snap) : GVal → List AT → Prop
  | .mk k b n s l ks vs, r => ∃ la lc lrows ma mc vrows,
      r = [.v (.int .i64 k), .b b, .b n.neg, .v (.string n.dg), .v (.int .i64 n.ex), .v (.string s), .v (.slice la l.length lc), .v (.slice ma ks.length mc)] ∧
      SlAt σ la l.length lc 8 lrows ∧ RepL σ l lrows ∧ ks.length = vs.length ∧ SlAt σ ma ks.length mc 9 (keyRows ks vrows) ∧ RepL σ vs vrows ∧
      n.dg.size ≤ mostLen ∧ s.size ≤ mostLen ∧ l.length ≤ mostLen ∧ ks.length ≤ mostLen ∧ (∀ k ∈ ks, k.size ≤ mostLen)
def RepL (σ : Snap) : List GVal → List (List AT) → Prop
  | [], rs => rs = []
  | g :: gs, rs => ∃ r rs', rs = r :: rs' ∧ RepV σ g r ∧ RepL σ gs rs'
end

mutual
theorem RepV.mono {σ σ' : Snap} (h : σ.le σ') : ∀ {g : GVal} {r : List AT}, RepV σ g r → RepV σ' g r
  | .mk k b n s l ks vs, r, hr => by
    simp only [RepV] at hr ⊢
    obtain ⟨la, lc, lrows, ma, mc, vrows, h1, h2, h3, h4, h5, h6, h7⟩ := hr
    exact ⟨la, lc, lrows, ma, mc, vrows, h1, h2.mono h, RepL.mono h h3, h4, h5.mono h, RepL.mono h h6, h7⟩
theorem RepL.mono {σ σ' : Snap} (h : σ.le σ') : ∀ {gs : List GVal} {rs : List (List AT)}, RepL σ gs rs → RepL σ' gs rs
  | [], _, hr => by simp only [RepL] at hr ⊢; exact hr
  | g :: gs, rs, hr => by
    simp only [RepL] at hr ⊢
    obtain ⟨r, rs', h1, h2, h3⟩ := hr
    exact ⟨r, rs', h1, RepV.mono h h2, RepL.mono h h3⟩
end

theorem RepL.len {σ : Snap} : ∀ {gs : List GVal} {rs : List (List AT)}, RepL σ gs rs → rs.length = gs.length
  | [], _, h => by simp only [RepL] at h; subst h; rfl
  | g :: gs, rs, h => by
    simp only [RepL] at h
    obtain ⟨r, rs', rfl, _, h3⟩ := h
    simp [RepL.len h3]

theorem RepL.get {σ : Snap} : ∀ {gs : List GVal} {rs : List (List AT)} {i : Nat} {g : GVal}, RepL σ gs rs → gs[i]? = some g → ∃ r, rs[i]? = some r ∧ RepV σ g r
  | [], _, _, _, _, hi => by simp at hi
  | g :: gs, rs, 0, g', h, hi => by
    simp only [RepL] at h
    obtain ⟨r, rs', rfl, h2, _⟩ := h
    simp at hi
    subst hi
    exact ⟨r, rfl, h2⟩
  | g :: gs, rs, i + 1, g', h, hi => by
    simp only [RepL] at h
    obtain ⟨r, rs', rfl, _, h3⟩ := h
    obtain ⟨r', h4, h5⟩ := RepL.get h3 (i := i) (by simpa using hi)
    exact ⟨r', by simpa using h4, h5⟩

theorem RepL.append {σ : Snap} : ∀ {gs hs : List GVal} {rs qs : List (List AT)}, RepL σ gs rs → RepL σ hs qs → RepL σ (gs ++ hs) (rs ++ qs)
  | [], hs, rs, qs, h, h' => by simp only [RepL] at h; subst h; simpa using h'
  | g :: gs, hs, rs, qs, h, h' => by
    simp only [RepL] at h
    obtain ⟨r, rs', rfl, h2, h3⟩ := h
    simp only [List.cons_append, RepL]
    exact ⟨r, rs' ++ qs, rfl, h2, RepL.append h3 h'⟩

theorem keyRows_len : ∀ {ks : List ByteArray} {rs : List (List AT)}, ks.length = rs.length → (keyRows ks rs).length = ks.length
  | [], rs, h => by simp [keyRows]
  | k :: ks, [], h => by simp at h
  | k :: ks, r :: rs, h => by simp [keyRows, keyRows_len (ks := ks) (rs := rs) (by simpa using h)]

theorem keyRows_get : ∀ {ks : List ByteArray} {rs : List (List AT)} {i : Nat} {k : ByteArray} {r : List AT}, ks[i]? = some k → rs[i]? = some r → (keyRows ks rs)[i]? = some (keyRow k r)
  | [], _, _, _, _, h, _ => by simp at h
  | _ :: _, [], _, _, _, _, h => by simp at h
  | k :: ks, r :: rs, 0, k', r', h, h' => by simp at h h'; subst h; subst h'; rfl
  | k :: ks, r :: rs, i + 1, k', r', h, h' => by
    simp only [keyRows, List.getElem?_cons_succ]
    exact keyRows_get (by simpa using h) (by simpa using h')

theorem RepV.len {σ : Snap} {g : GVal} {r : List AT} (h : RepV σ g r) : r.length = 8 := by
  cases g
  simp only [RepV] at h
  obtain ⟨_, _, _, _, _, _, rfl, _⟩ := h
  rfl
theorem RepV.clo {σ : Snap} {g : GVal} {r : List AT} (h : RepV σ g r) : ∀ c ∈ r, c.lt 0 := by
  cases g
  simp only [RepV] at h
  obtain ⟨_, _, _, _, _, _, rfl, _⟩ := h
  simp [AT.lt]
theorem RepV.one {σ : Snap} {g : GVal} {r : List AT} (h : RepV σ g r) : r.all AT.one = true := by
  cases g
  simp only [RepV] at h
  obtain ⟨_, _, _, _, _, _, rfl, _⟩ := h
  rfl

/-- A value's cells, laid open. -/
structure VAt (σ : Snap) (g : GVal) (la : Option Addr) (lc : Nat) (lrows : List (List AT)) (ma : Option Addr) (mc : Nat) (vrows : List (List AT)) : Prop where
  L : SlAt σ la g.l.length lc 8 lrows
  l : RepL σ g.l lrows
  kv : g.ks.length = g.vs.length
  M : SlAt σ ma g.ks.length mc 9 (keyRows g.ks vrows)
  v : RepL σ g.vs vrows
  dg : g.n.dg.size ≤ mostLen
  s : g.s.size ≤ mostLen
  ll : g.l.length ≤ mostLen
  kl : g.ks.length ≤ mostLen
  kk : ∀ k ∈ g.ks, k.size ≤ mostLen

def vCells (g : GVal) (la : Option Addr) (lc : Nat) (ma : Option Addr) (mc : Nat) : List AT :=
  [.v (.int .i64 g.kind), .b g.b, .b g.n.neg, .v (.string g.n.dg), .v (.int .i64 g.n.ex), .v (.string g.s), .v (.slice la g.l.length lc), .v (.slice ma g.ks.length mc)]

theorem vCells_lt (n : Nat) (g : GVal) (la : Option Addr) (lc : Nat) (ma : Option Addr) (mc : Nat) : ∀ c ∈ vCells g la lc ma mc, c.lt n := by simp [vCells, AT.lt]

theorem RepV.open {σ : Snap} {g : GVal} {r : List AT} (h : RepV σ g r) : ∃ la lc lrows ma mc vrows, r = vCells g la lc ma mc ∧ VAt σ g la lc lrows ma mc vrows := by
  cases g
  simp only [RepV] at h
  obtain ⟨la, lc, lrows, ma, mc, vrows, rfl, h2, h3, h4, h5, h6, h7, h8, h9, h10, h11⟩ := h
  exact ⟨la, lc, lrows, ma, mc, vrows, rfl, h2, h3, h4, h5, h6, h7, h8, h9, h10, h11⟩
theorem VAt.rep {σ : Snap} {g : GVal} {la : Option Addr} {lc : Nat} {lrows : List (List AT)} {ma : Option Addr} {mc : Nat} {vrows : List (List AT)} (h : VAt σ g la lc lrows ma mc vrows) : RepV σ g (vCells g la lc ma mc) := by
  cases g
  simp only [RepV]
  exact ⟨la, lc, lrows, ma, mc, vrows, rfl, h.L, h.l, h.kv, h.M, h.v, h.dg, h.s, h.ll, h.kl, h.kk⟩

theorem VAt.vlen {σ : Snap} {g : GVal} {la : Option Addr} {lc : Nat} {lrows : List (List AT)} {ma : Option Addr} {mc : Nat} {vrows : List (List AT)} (h : VAt σ g la lc lrows ma mc vrows) : vrows.length = g.ks.length := by
  rw [h.v.len, h.kv]

/-- How much a value weighs. -/
def sizes : List ByteArray → Nat
  | [] => 0
  | k :: ks => k.size + sizes ks

mutual
def GVal.weight : GVal → Nat
  | .mk _ _ n s l ks vs => 1 + s.size + n.dg.size + GVal.weights l + sizes ks + GVal.weights vs
def GVal.weights : List GVal → Nat
  | [] => 0
  | g :: gs => g.weight + GVal.weights gs
end

theorem weights_append : ∀ (a b : List GVal), GVal.weights (a ++ b) = GVal.weights a + GVal.weights b
  | [], b => by simp [GVal.weights]
  | g :: a, b => by simp only [List.cons_append, GVal.weights, weights_append a b]; omega
theorem sizes_append : ∀ (a b : List ByteArray), sizes (a ++ b) = sizes a + sizes b
  | [], b => by simp [sizes]
  | g :: a, b => by simp only [List.cons_append, sizes, sizes_append a b]; omega

theorem weights_take {l : List GVal} {i : Nat} {g : GVal} (h : l[i]? = some g) : GVal.weights (l.take (i + 1)) = GVal.weights (l.take i) + g.weight := by
  have hlt := (List.getElem?_eq_some_iff.1 h).1
  rw [List.take_succ_eq_append_getElem hlt, weights_append]
  simp only [GVal.weights, Nat.add_zero]
  rw [(List.getElem?_eq_some_iff.1 h).2]
theorem sizes_take {l : List ByteArray} {i : Nat} {k : ByteArray} (h : l[i]? = some k) : sizes (l.take (i + 1)) = sizes (l.take i) + k.size := by
  have hlt := (List.getElem?_eq_some_iff.1 h).1
  rw [List.take_succ_eq_append_getElem hlt, sizes_append]
  simp only [sizes, Nat.add_zero]
  rw [(List.getElem?_eq_some_iff.1 h).2]

theorem GVal.weight_eq (g : GVal) : g.weight = 1 + g.s.size + g.n.dg.size + GVal.weights g.l + sizes g.ks + GVal.weights g.vs := by
  cases g; simp only [GVal.weight, GVal.s, GVal.n, GVal.l, GVal.ks, GVal.vs]
theorem weight_pos (g : GVal) : 0 < g.weight := by rw [GVal.weight_eq]; omega
theorem weight_mem {l : List GVal} {g : GVal} (h : g ∈ l) : g.weight ≤ GVal.weights l := by
  induction l with
  | nil => cases h
  | cons x l ih =>
    simp only [GVal.weights]
    cases h with
    | head => omega
    | tail _ h => have := ih h; omega
theorem weights_len (l : List GVal) : l.length ≤ GVal.weights l := by
  induction l with
  | nil => simp
  | cons x l ih => simp only [GVal.weights, List.length_cons]; have := weight_pos x; omega
theorem size_mem {l : List ByteArray} {k : ByteArray} (h : k ∈ l) : k.size ≤ sizes l := by
  induction l with
  | nil => cases h
  | cons x l ih =>
    simp only [sizes]
    cases h with
    | head => omega
    | tail _ h => have := ih h; omega

/-- Proof by a value's weight. -/
theorem GVal.byWeight {p : GVal → Prop} (h : ∀ g, (∀ g', g'.weight < g.weight → p g') → p g) (g : GVal) : p g := by
  have key : ∀ n, ∀ g : GVal, g.weight ≤ n → p g := by
    intro n
    induction n with
    | zero => intro g hg; have := weight_pos g; omega
    | succ n ih => intro g hg; exact h g fun g' hg' => ih g' (by omega)
  exact key g.weight g (Nat.le_refl _)

theorem weight_l {g x : GVal} (h : x ∈ g.l) : x.weight < g.weight := by
  have := weight_mem h; rw [g.weight_eq]; omega
theorem weight_v {g x : GVal} (h : x ∈ g.vs) : x.weight < g.weight := by
  have := weight_mem h; rw [g.weight_eq]; omega

end Go.Sy
/- Maps that are the call's own: for the moment sealed, and sealed anew when they turn. No program in sight. -/
namespace Go.Sy
open Go.MapKept

/-! ### What is known of cells alone -/

def Snap.cle (σ σ' : Snap) : Prop := ∀ a v, σ.cell a = some v → σ'.cell a = some v
theorem Snap.le.cle {σ σ' : Snap} (h : σ.le σ') : σ.cle σ' := fun _ _ hv => h.cell hv
theorem Snap.cle_refl (σ : Snap) : σ.cle σ := fun _ _ h => h
theorem Snap.cle_trans {a b c : Snap} (h : a.cle b) (h' : b.cle c) : a.cle c := fun x v hx => h' x v (h x v hx)

theorem SlAt.monoC {σ σ' : Snap} {ao : Option Addr} {n cap sz : Nat} {rows : List (List AT)} (h : SlAt σ ao n cap sz rows) (hle : σ.cle σ') : SlAt σ' ao n cap sz rows := by
  refine ⟨h.len, h.ncap, h.clo, ?_⟩
  rcases h.at_ with h0 | ⟨ad, h1, h2⟩
  · exact .inl h0
  · exact .inr ⟨ad, h1, fun i r j c hr hc => hle _ _ (h2 i r j c hr hc)⟩

mutual
theorem RepV.monoC {σ σ' : Snap} (h : σ.cle σ') : ∀ {g : GVal} {r : List AT}, RepV σ g r → RepV σ' g r
  | .mk k b n s l ks vs, r, hr => by
    simp only [RepV] at hr ⊢
    obtain ⟨la, lc, lrows, ma, mc, vrows, h1, h2, h3, h4, h5, h6, h7⟩ := hr
    exact ⟨la, lc, lrows, ma, mc, vrows, h1, h2.monoC h, RepL.monoC h h3, h4, h5.monoC h, RepL.monoC h h6, h7⟩
theorem RepL.monoC {σ σ' : Snap} (h : σ.cle σ') : ∀ {gs : List GVal} {rs : List (List AT)}, RepL σ gs rs → RepL σ' gs rs
  | [], _, hr => by simp only [RepL] at hr ⊢; exact hr
  | g :: gs, rs, hr => by
    simp only [RepL] at hr ⊢
    obtain ⟨r, rs', h1, h2, h3⟩ := hr
    exact ⟨r, rs', h1, RepV.monoC h h2, RepL.monoC h h3⟩
end

/-! ### Blocks of the call's own that hold no cells -/

def nocell : Obj → Bool
  | .cells _ _ _ => false
  | _ => true

def Snap.set (σ : Snap) (b : Nat) (o : Option Obj) : Snap := fun i => if i = b then o else σ i
theorem Snap.set_self (σ : Snap) (b : Nat) (o : Option Obj) : σ.set b o b = o := by simp [Snap.set]
theorem Snap.set_ne {σ : Snap} {b i : Nat} {o : Option Obj} (h : i ≠ b) : σ.set b o i = σ i := by simp [Snap.set, h]

theorem Snap.cell_set {σ : Snap} {b : Nat} {o' : Option Obj} (h : ∀ o, σ b = some o → nocell o = true) (h' : ∀ o, o' = some o → nocell o = true) (a : Addr) : (σ.set b o').cell a = σ.cell a := by
  unfold Snap.cell
  by_cases hab : a.block = b
  · rw [hab, Snap.set_self]
    have h1 : ∀ x : Option Obj, (∀ o, x = some o → nocell o = true) → (match x with | some (.cells c _ _) => (if a.spot.isSome then none else c[a.off]?) | _ => none) = none := by
      intro x hx
      cases x with
      | none => rfl
      | some o =>
        have := hx o rfl
        cases o <;> first | rfl | cases this
    exact (h1 _ h').trans (h1 _ h).symm
  · rw [Snap.set_ne hab]

section
variable {cf : Cf} {σ : Snap} {hp : HP} {A : List AE} {β : Nat → Addr} {w w' : World}

theorem StW.nocell_of {b : Nat} {o : Obj} (h : StW cf σ hp A β w) (hb : w.heap[b]? = some o) (ho : nocell o = true) : ∀ o1, σ b = some o1 → nocell o1 = true := by
  intro o1 h1
  have := h.sealed _ _ h1
  rw [hb] at this
  injection this with this
  subst this
  exact ho

/-- What is known of a block of the call's own that holds no cells is changed, and the block with it. -/
theorem StW.swap {b : Nat} {o : Obj} (s : Option Obj) (h : StW cf σ hp A β w) (hb : w.heap[b]? = some o) (ho : nocell o = true) (h0 : cf.σ0 b = none) (hown : Own cf b)
    (h1 : w'.os = w.os) (h2 : w'.tape = w.tape) (h3 : w'.output = w.output) (hsz : w'.heap.size = w.heap.size) (hoth : ∀ c, c ≠ b → w'.heap[c]? = w.heap[c]?)
    (hs : ∀ o', s = some o' → w'.heap[b]? = some o' ∧ nocell o' = true) : StW cf (σ.set b s) hp A β w' := by
  have hcells : ∀ {c : Nat} {cs : Array Value} {e : TypeId} {f : Nat × Nat}, w.heap[c]? = some (.cells cs e f) → c ≠ b := fun hc e => by subst e; rw [hb] at hc; injection hc with hc; subst hc; cases ho
  have hcell : ∀ a, (σ.set b s).cell a = σ.cell a := Snap.cell_set (h.nocell_of hb ho) fun o' e => (hs o' e).2
  refine ⟨h1.trans h.os, h2.trans h.tape, h3.trans h.output, by rw [hsz]; exact h.size, fun c hc hm => ?_, fun c o' hc => ?_, fun c o' hc => ?_, fun c hc => ?_, fun i e cs hi => ?_, fun i cs hi j c hc => ?_, h.inj, fun i E hE => ?_, h.arrd, h.arrh⟩
  · have hne : c ≠ b := fun e => by
      subst e
      rcases hown with ho | ho
      · omega
      · exact hm ho
    rw [hoth c hne]; exact h.fr c hc hm
  · by_cases hcb : c = b
    · subst hcb
      rw [Snap.set_self] at hc
      exact (hs o' hc).1
    · rw [Snap.set_ne hcb] at hc
      rw [hoth c hcb]; exact h.sealed c o' hc
  · have hcb : c ≠ b := fun e => by subst e; rw [h0] at hc; cases hc
    rw [Snap.set_ne hcb]
    exact h.le c o' hc
  · by_cases hcb : c = b
    · subst hcb; exact .inr hown
    · rw [Snap.set_ne hcb] at hc; exact h.grow c hc
  · obtain ⟨h1, h2, h3, h4⟩ := h.loc i e cs hi
    have hne := hcells h2
    exact ⟨h1, by rw [hoth _ hne]; exact h2, by rw [Snap.set_ne hne]; exact h3, h4⟩
  · rw [hcell]; exact h.ro i cs hi j c hc
  · obtain ⟨h1, h2⟩ := h.arr i E hE
    refine ⟨h1, h2.imp id ?_⟩
    rintro ⟨g, cur, h3, h4, h5, h6, h7, h8, h9, h10⟩
    have hne := hcells h4
    exact ⟨g, cur, h3, by rw [hoth _ hne]; exact h4, h5, h6, h7, h8, by rw [Snap.set_ne hne]; exact h9, h10⟩

theorem StW.own_of {b : Nat} {o : Obj} (h : StW cf σ hp A β w) (hb : σ b = some o) (h0 : cf.σ0 b = none) : Own cf b := (h.grow b (by rw [hb]; simp)).resolve_left fun hc => hc h0

/-- It is forgotten. -/
theorem StW.forget {b : Nat} {o : Obj} (h : StW cf σ hp A β w) (hb : σ b = some o) (ho : nocell o = true) (h0 : cf.σ0 b = none) : StW cf (σ.set b none) hp A β w :=
  h.swap none (h.sealed _ _ hb) ho h0 (h.own_of hb h0) rfl rfl rfl rfl (fun _ _ => rfl) fun _ e => (by cases e)

theorem setAt_same {w : World} {b : Nat} {o o' : Obj} (hb : w.heap[b]? = some o) : (w.heap.setIfInBounds b o')[b]? = some o' := (heap_set (o' := o') hb).1
theorem setAt_other {w : World} {b c : Nat} {o o' : Obj} (hb : w.heap[b]? = some o) (h : c ≠ b) : (w.heap.setIfInBounds b o')[c]? = w.heap[c]? := (heap_set (o' := o') hb).2 c h

/-- It becomes another object. -/
theorem StW.turn {b : Nat} {o o' : Obj} (h : StW cf σ hp A β w) (hb : σ b = some o) (ho : nocell o = true) (ho' : nocell o' = true) (h0 : cf.σ0 b = none) : StW cf (σ.set b (some o')) hp A β { w with heap := w.heap.setIfInBounds b o' } :=
  h.swap (some o') (h.sealed _ _ hb) ho h0 (h.own_of hb h0) rfl rfl rfl (by simp) (fun c hc => setAt_other (h.sealed _ _ hb) hc) fun o1 e => by
    injection e with e
    subst e
    exact ⟨setAt_same (h.sealed _ _ hb), ho'⟩

/-- A new object that holds no cells. -/
theorem StW.lay {o : Obj} (h : StW cf σ hp A β w) (ho : nocell o = true) : σ w.heap.size = none ∧ StW cf (σ.set w.heap.size (some o)) hp A β (w.alloc o) := by
  have hold : ∀ b, b < w.heap.size → (w.alloc o).heap[b]? = w.heap[b]? := fun b hb => by show (w.heap.push _)[b]? = _; rw [Array.getElem?_push, if_neg (Nat.ne_of_lt hb)]
  have hσ : σ w.heap.size = none := by
    cases hs : σ w.heap.size with
    | none => rfl
    | some ob =>
      have := h.sealed _ _ hs
      have := (Array.getElem?_eq_some_iff.1 this).1
      omega
  have hcell : ∀ a, (σ.set w.heap.size (some o)).cell a = σ.cell a := Snap.cell_set (fun o1 h1 => by rw [hσ] at h1; cases h1) fun o' e => by injection e with e; subst e; exact ho
  refine ⟨hσ, h.os, h.tape, h.output, by have := h.size; simp only [World.alloc, Array.size_push]; omega, fun b hb hm => ?_, fun b ob hs => ?_, fun b ob hs => ?_, fun b hb => ?_, fun i e cs hi => ?_, fun i cs hi j c hc => ?_, h.inj, fun i E hE => ?_, h.arrd, h.arrh⟩
  · rw [hold b (Nat.lt_of_lt_of_le hb h.size)]; exact h.fr b hb hm
  · by_cases hbe : b = w.heap.size
    · subst hbe
      rw [Snap.set_self] at hs
      injection hs with hs
      subst hs
      exact Go.heap_alloc_new w _
    · rw [Snap.set_ne hbe] at hs
      have := h.sealed b ob hs
      rw [hold b (Array.getElem?_eq_some_iff.1 this).1]; exact this
  · have h1 := h.le b ob hs
    have hne : b ≠ w.heap.size := fun e => by rw [e, hσ] at h1; cases h1
    rw [Snap.set_ne hne]; exact h1
  · by_cases hbe : b = w.heap.size
    · subst hbe; exact .inr (.inl h.size)
    · rw [Snap.set_ne hbe] at hb; exact h.grow b hb
  · obtain ⟨h1, h2, h3, h4⟩ := h.loc i e cs hi
    have hlt := (Array.getElem?_eq_some_iff.1 h2).1
    exact ⟨h1, by rw [hold _ hlt]; exact h2, by rw [Snap.set_ne (Nat.ne_of_lt hlt)]; exact h3, h4⟩
  · rw [hcell]; exact h.ro i cs hi j c hc
  · obtain ⟨h1, h2⟩ := h.arr i E hE
    refine ⟨h1, h2.imp id ?_⟩
    rintro ⟨g, cur, h3, h4, h5, h6, h7, h8, h9, h10⟩
    have hlt := (Array.getElem?_eq_some_iff.1 h4).1
    exact ⟨g, cur, h3, by rw [hold _ hlt]; exact h4, h5, h6, h7, h8, by rw [Snap.set_ne (Nat.ne_of_lt hlt)]; exact h9, h10⟩
end

/-! ### Entries -/

section
variable {κ : Type} [DecidableEq κ]

/-- The place of a key's entry, and what stands there. -/
def mix : List (κ × Value) → κ → Nat → Option (Nat × Value)
  | [], _, _ => none
  | p :: l, k, i => if p.1 = k then some (i, p.2) else mix l k (i + 1)
def mlook (l : List (κ × Value)) (k : κ) : Option Value := (mix l k 0).map (·.2)
def mput : List (κ × Value) → κ → Value → List (κ × Value)
  | [], k, v => [(k, v)]
  | p :: l, k, v => if p.1 = k then (k, v) :: l else p :: mput l k v

theorem mix_ge : ∀ (l : List (κ × Value)) (k : κ) (i m : Nat) (v : Value), mix l k i = some (m, v) → i ≤ m
  | [], _, _, _, _, h => by cases h
  | p :: l, k, i, m, v, h => by
    simp only [mix] at h
    split at h
    · simp only [Option.some.injEq, Prod.mk.injEq] at h; omega
    · have := mix_ge l k (i + 1) m v h; omega
theorem mix_none : ∀ (l : List (κ × Value)) (k : κ) (i : Nat), mix l k i = none ↔ ∀ p ∈ l, p.1 ≠ k
  | [], _, _ => by simp [mix]
  | p :: l, k, i => by
    simp only [mix]
    split
    · rename_i h; simp [h]
    · rename_i h; rw [mix_none l k (i + 1)]; simp [h]
theorem mlook_none {l : List (κ × Value)} {k : κ} : mlook l k = none ↔ ∀ p ∈ l, p.1 ≠ k := by
  unfold mlook; rw [Option.map_eq_none_iff]; exact mix_none l k 0
theorem mput_new : ∀ {l : List (κ × Value)} {k : κ} {v : Value}, (∀ p ∈ l, p.1 ≠ k) → mput l k v = l ++ [(k, v)]
  | [], _, _, _ => rfl
  | p :: l, k, v, h => by
    simp only [mput, if_neg (h p (List.mem_cons_self ..)), List.cons_append, mput_new fun q hq => h q (List.mem_cons_of_mem _ hq)]

variable (mk : κ → Value)

def ents (es : List MapEntry) : List (Value × Value) := es.map fun e => (e.key, e.val)
def mvals (l : List (κ × Value)) : List (Value × Value) := l.map fun p => (mk p.1, p.2)

/-- Block b is, for the moment, the map of these entries. -/
def MapAt (σ : Snap) (b : Nat) (l : List (κ × Value)) : Prop := ∃ es clock, σ b = some (.map es clock) ∧ ents es.toList = mvals mk l

omit [DecidableEq κ] in
theorem MapAt.mono {σ σ' : Snap} {b : Nat} {l : List (κ × Value)} (h : MapAt mk σ b l) (hle : σ.le σ') : MapAt mk σ' b l := by
  obtain ⟨es, c, h1, h2⟩ := h
  exact ⟨es, c, hle _ _ h1, h2⟩

/-- What may be a key. -/
structure KeyOk (d : TypeDesc) : Prop where
  is : ∀ x, IsKey d (mk x)
  inj : ∀ x y, mk x = mk y → x = y

variable {mk} {d : TypeDesc} (K : KeyOk mk d)
include K

theorem findNow_l (k : κ) : ∀ (es : List MapEntry) (l : List (κ × Value)) (i : Nat), ents es = mvals mk l → Instr.findNow d (mk k) es i = some (mix l k i)
  | [], [], i, _ => rfl
  | [], _ :: _, i, h => by simp [ents, mvals] at h
  | _ :: _, [], i, h => by simp [ents, mvals] at h
  | e :: es, p :: l, i, h => by
    simp only [ents, mvals, List.map_cons, List.cons.injEq, Prod.mk.injEq] at h
    obtain ⟨⟨h1, h2⟩, h3⟩ := h
    obtain ⟨r, hr, hiff⟩ := sameNow_of_keys (K.is k) (K.is p.1)
    simp only [Instr.findNow, h1, hr, mix]
    cases r with
    | true =>
      have := K.inj _ _ (hiff.1 rfl)
      rw [if_pos this.symm, h2]
    | false =>
      have hne : ¬ p.1 = k := fun e => by have := hiff.2 (by rw [e]); cases this
      rw [if_neg hne]
      exact findNow_l k es l (i + 1) h3

omit K in
theorem modify_l (k : κ) (v : Value) : ∀ (es : List MapEntry) (l : List (κ × Value)) (i m : Nat) (u : Value), ents es = mvals mk l → mix l k i = some (m, u) →
    ents (es.modify (m - i) fun e => { e with key := mk k, val := v }) = mvals mk (mput l k v) ∧ ∃ e, es[m - i]? = some e ∧ e.key = mk k
  | [], [], i, m, u, _, hm => by cases hm
  | [], _ :: _, i, m, u, h, _ => by simp [ents, mvals] at h
  | _ :: _, [], i, m, u, h, _ => by simp [ents, mvals] at h
  | e :: es, p :: l, i, m, u, h, hm => by
    simp only [ents, mvals, List.map_cons, List.cons.injEq, Prod.mk.injEq] at h
    obtain ⟨⟨h1, h2⟩, h3⟩ := h
    simp only [mix] at hm
    split at hm
    · rename_i hp
      simp only [Option.some.injEq, Prod.mk.injEq] at hm
      obtain ⟨rfl, rfl⟩ := hm
      simp only [Nat.sub_self, List.modify_zero_cons, mput, if_pos hp, ents, mvals, List.map_cons, h3, true_and]
      exact ⟨e, rfl, by rw [h1, hp]⟩
    · rename_i hp
      have hge := mix_ge l k (i + 1) m u hm
      obtain ⟨h4, e', h5, h6⟩ := modify_l k v es l (i + 1) m u h3 hm
      have hx : m - i = (m - (i + 1)) + 1 := by omega
      rw [hx]
      simp only [List.modify_succ_cons, mput, if_neg hp]
      refine ⟨?_, e', by simpa using h5, h6⟩
      simp only [ents, mvals, List.map_cons, List.cons.injEq, Prod.mk.injEq] at h4 ⊢
      exact ⟨⟨h1, h2⟩, h4⟩

variable {P : Program} {w : World} {t kt et : TypeId} {b : Nat} {es : Array MapEntry} {clock : Nat} {l : List (κ × Value)}

theorem run_mlookup (hm : P.underlying t = some (.map kt et)) (hd : P.underlying kt = some d) (hb : w.heap[b]? = some (.map es clock)) (hl : ents es.toList = mvals mk l) {z : Value} (hz : (zeroValue et).run P w = .ok z w) (k : κ) (ok : Bool) :
    (Instr.lookup t (.map (some b)) (mk k) ok).run P w = .ok (if ok then .tuple #[(mlook l k).getD z, .bool (mlook l k).isSome] else (mlook l k).getD z) w := by
  have hf := run_findKey (P := P) (w := w) hd (findNow_l K k es.toList l 0 hl)
  have hc := run_checkKey (P := P) (w := w) hd (K.is k) es.isEmpty 9999
  unfold Instr.lookup mlook
  simp only [Sem.run_bind, run_underlying hm, Go.MapKept.run_getObj_map hb, Result.andThen_ok, Sem.run_pure, hc, hf]
  cases hx : mix l k 0 with
  | none => simp [hz, Result.andThen_ok]
  | some q => obtain ⟨i, v⟩ := q; simp

theorem run_mupdate (hm : P.underlying t = some (.map kt et)) (hd : P.underlying kt = some d) (hb : w.heap[b]? = some (.map es clock)) (hl : ents es.toList = mvals mk l) (k : κ) (v : Value) :
    ∃ es' clock', ents es'.toList = mvals mk (mput l k v) ∧ (Instr.mapUpdate t (.map (some b)) (mk k) v).run P w = .ok () { w with heap := w.heap.setIfInBounds b (.map es' clock') } := by
  have hf := run_findKey (P := P) (w := w) hd (findNow_l K k es.toList l 0 hl)
  have hc := run_checkKey (P := P) (w := w) hd (K.is k) false 9999
  cases hx : mix l k 0 with
  | none =>
    rw [hx] at hf
    refine ⟨es.push { key := mk k, val := v, born := clock }, clock + 1, ?_, ?_⟩
    · rw [mput_new ((mix_none l k 0).1 hx)]
      simp only [ents, mvals, Array.toList_push, List.map_append, List.map_cons, List.map_nil] at hl ⊢
      rw [hl]
    · unfold Instr.mapUpdate
      simp only [Sem.run_bind, run_underlying hm, Go.MapKept.run_getObj_map hb, Result.andThen_ok, hc, hf, Go.MapKept.run_setObj_map _ hb]
  | some q =>
    obtain ⟨i, u⟩ := q
    rw [hx] at hf
    obtain ⟨h1, e, h2, h3⟩ := modify_l k v es.toList l 0 i u hl hx
    simp only [Nat.sub_zero] at h1 h2
    refine ⟨es.modify i fun e => { e with key := mk k, val := v }, clock, by rw [Array.toList_modify]; exact h1, ?_⟩
    have hj : es[i]? = some e := by simpa using h2
    unfold Instr.mapUpdate
    simp only [Sem.run_bind, run_underlying hm, Go.MapKept.run_getObj_map hb, Result.andThen_ok, hc, hf, hj, Option.map_some, Option.getD_some, h3, run_keyThatStays (K.is k), Go.MapKept.run_setObj_map _ hb]
end

/-! ### Rules -/

theorem string_key {d : TypeDesc} (h : d = .string) : KeyOk Value.string d := by
  subst h
  exact ⟨fun _ => by simp [IsKey], fun _ _ h => by injection h⟩
theorem int_key {d : TypeDesc} (k : IntKind) (h : d = .int k) : KeyOk (Value.int k) d := by
  subst h
  exact ⟨fun _ => by simp [IsKey], fun _ _ h => by injection h⟩

section
variable {cf : Cf} {Q : Exit → Act → World → Prop} {σ : Snap} {env : Env} {hp : HP} {A : List AE} {nh : Nat} {it : Item} {rest : List Item}

/-- A new map. -/
theorem oj_makeMap {κ : Type} (mk : κ → Value) {d : Nat} {t : TypeId} (hop : it.o.op = .makeMap t none) (hd : it.o.dst = some d) (hg : guardVal it.guard env = some true) (hN : Nat.blt d cf.N = true) (hq : notQuiet it.tag = true)
    (k : ∀ b σ', σ b = none → σ.le σ' → MapAt mk σ' b [] → OJ cf rest Q σ' ((d, .a (.v (.map (some b)))) :: env) hp A nh) : OJ cf (it :: rest) Q σ env hp A nh := by
  refine oj_fresh (Φ := fun v σ' => ∃ b, v = .map (some b) ∧ σ b = none ∧ MapAt mk σ' b []) hd hg hN hq (fun a β ha w hs => ?_) fun v σ' hle ⟨b, hv, h0, hm⟩ => ⟨.a (.v (.map (some b))), trivial, hv.symm, k b σ' h0 hle hm⟩
  have hnone : σ w.heap.size = none := by
    cases hs' : σ w.heap.size with
    | none => rfl
    | some o =>
      have := (Array.getElem?_eq_some_iff.1 (hs _ _ hs')).1
      omega
  have hold : ∀ b, b < w.heap.size → (w.alloc (.map #[] 0)).heap[b]? = w.heap[b]? := fun b hb => by show (w.heap.push _)[b]? = _; rw [Array.getElem?_push, if_neg (Nat.ne_of_lt hb)]
  refine ⟨.map (some w.heap.size), w.alloc (.map #[] 0), fun i => if i = w.heap.size then some (.map #[] 0) else σ i, ?_, ⟨rfl, rfl, rfl, by show _ ≤ (w.heap.push _).size; rw [Array.size_push]; omega, fun b hb _ => hold b hb⟩, ⟨fun b o hb => ?_, fun b hb => ?_⟩, fun b o hb => ?_, _, rfl, hnone, ?_⟩
  · simp only [execOp, hop, Option.map_none]
    rfl
  · show (if b = w.heap.size then some (Obj.map #[] 0) else σ b) = some o
    rw [if_neg (fun e => by rw [e, hnone] at hb; cases hb)]; exact hb
  · by_cases hbe : b = w.heap.size
    · exact .inr (.inl (by omega))
    · left
      simp only [if_neg hbe] at hb
      exact hb
  · by_cases hbe : b = w.heap.size
    · simp only [if_pos hbe] at hb
      injection hb with hb
      subst hb; subst hbe
      exact Go.heap_alloc_new w _
    · simp only [if_neg hbe] at hb
      have := hs b o hb
      rw [hold b (Array.getElem?_eq_some_iff.1 this).1]; exact this
  · exact ⟨#[], 0, by simp, rfl⟩

/-- 'm[k]'. -/
theorem oj_lookup {κ : Type} [DecidableEq κ] {mk : κ → Value} {dd : TypeDesc} (K : KeyOk mk dd) {d : Nat} {t kt et : TypeId} {m x : Operand} {ok : Bool} {b : Nat} {l : List (κ × Value)} {kk : κ} {y : SV} {z : Value}
    (hm : cf.P.underlying t = some (.map kt et)) (hkt : cf.P.underlying kt = some dd) (hz : ∀ w, (zeroValue et).run cf.P w = .ok z w)
    (hop : it.o.op = .lookup t m x ok) (hd : it.o.dst = some d) (hg : guardVal it.guard env = some true) (hN : Nat.blt d cf.N = true) (ht : (match it.tag with | .pure => false | _ => true) = true)
    (hmv : evalO env m = some (.a (.v (.map (some b))))) (hxv : ∃ s, evalO env x = some s ∧ ∀ β, s.den β = mk kk) (hM : MapAt mk σ b l) (hlt : y.lt 0)
    (hy : y.den β0 = if ok then .tuple #[(mlook l kk).getD z, .bool (mlook l kk).isSome] else (mlook l kk).getD z)
    (k : OJ cf rest Q σ ((d, y) :: env) hp A nh) : OJ cf (it :: rest) Q σ env hp A nh := by
  obtain ⟨es, clock, h1, h2⟩ := hM
  obtain ⟨s, hs, hsd⟩ := hxv
  refine oj_valW y hd hg hN (SV.lt_mono (Nat.zero_le _) hlt) ht (fun hb a β ha w hw => ?_) k
  have e1 : a.eval m = .map (some b) := evalO_eval ha hmv
  have e2 : a.eval x = mk kk := (evalO_eval ha hs).trans (hsd β)
  have hd0 : y.den β = y.den β0 := SV.den_congr (n := 0) (fun i hi => by omega) hlt
  have hr := run_mlookup K hm hkt (hw.sealed _ _ h1) h2 (hz w) kk ok
  simp only [execOp, hop, e1, e2, Sem.run_bind]
  rw [hr, hd0, hy]
  rfl

def updOf : Op → Option (TypeId × Operand × Operand × Operand)
  | .mapUpdate t m x v => some (t, m, x, v)
  | .insert t m x v => some (t, m, x, v)
  | _ => none

/-- 'm[k] = v'. -/
theorem oj_mapUpdate {κ : Type} [DecidableEq κ] {mk : κ → Value} {dd : TypeDesc} (K : KeyOk mk dd) {t kt et : TypeId} {m x v : Operand} {b : Nat} {l : List (κ × Value)} {kk : κ} {vv : Value}
    (hm : cf.P.underlying t = some (.map kt et)) (hkt : cf.P.underlying kt = some dd)
    (hop : updOf it.o.op = some (t, m, x, v)) (hd : it.o.dst = none) (hg : guardVal it.guard env = some true) (ht : canSink it.tag = true)
    (hmv : evalO env m = some (.a (.v (.map (some b))))) (hxv : ∃ s, evalO env x = some s ∧ ∀ β, s.den β = mk kk) (hvv : ∃ s, evalO env v = some s ∧ ∀ β, s.den β = vv) (hM : MapAt mk σ b l) (h0 : cf.σ0 b = none)
    (k : ∀ σ', σ.cle σ' → (∀ i, i ≠ b → σ' i = σ i) → MapAt mk σ' b (mput l kk vv) → OJ cf rest Q σ' env hp A nh) : OJ cf (it :: rest) Q σ env hp A nh := by
  obtain ⟨es, clock, h1, h2⟩ := hM
  obtain ⟨s, hs, hsd⟩ := hxv
  obtain ⟨u, hu, hud⟩ := hvv
  refine ⟨fun hb a β ha hex => ?_⟩
  have key : ∀ w, StW cf σ hp A β w → ∀ Q', it.o.wq cf.P a w (fun a' w' => ∃ E' S' : World → Prop, S' w' ∧ (∀ x, S' x → E' x) ∧ RunT cf.P Q rest E' S' a') Q' := by
    intro w hw Q'
    have e1 : a.eval m = .map (some b) := evalO_eval ha hmv
    have e2 : a.eval x = mk kk := (evalO_eval ha hs).trans (hsd β)
    have e3 : a.eval v = vv := (evalO_eval ha hu).trans (hud β)
    obtain ⟨es', clock', h3, h4⟩ := run_mupdate (P := cf.P) K hm hkt (hw.sealed _ _ h1) h2 kk vv
    have hrun : (execOp a.eval it.o).run cf.P w = .ok .skip { w with heap := w.heap.setIfInBounds b (.map es' clock') } := by
      unfold updOf at hop
      split at hop
      · rename_i hop'
        simp only [Option.some.injEq, Prod.mk.injEq] at hop
        obtain ⟨rfl, rfl, rfl, rfl⟩ := hop
        simp only [execOp, hop', e1, e2, e3, Sem.run_bind, h4, Result.andThen_ok, Sem.run_pure]
      · rename_i hop'
        simp only [Option.some.injEq, Prod.mk.injEq] at hop
        obtain ⟨rfl, rfl, rfl, rfl⟩ := hop
        simp only [execOp, hop', e1, e2, e3, Sem.run_bind, h4, Result.andThen_ok, Sem.run_pure]
      · cases hop
    have hw' := hw.turn (o' := .map es' clock') h1 rfl rfl h0
    unfold Oper.wq
    rw [hrun]
    refine ⟨_, _, hw', fun _ h => h, ?_⟩
    rw [hd]
    refine (k _ (fun ad c hc => ?_) (fun i hi => Snap.set_ne hi) ⟨es', clock', Snap.set_self .., h3⟩).run hb a β ha ⟨_, hw'⟩
    rw [Snap.cell_set (hw.nocell_of (hw.sealed _ _ h1) rfl) (fun o e => by injection e with e; subst e; rfl)]; exact hc
  simp only [RunT]
  rw [if_pos (guardVal_ok ha hg)]
  cases htag : it.tag with
  | pure => rw [htag] at ht; cases ht
  | quiet => rw [htag] at ht; cases ht
  | keep => rw [htag] at ht; cases ht
  | sink => exact fun w hw => key w hw _
  | free => exact fun w hw => key w hw _
end
end Go.Sy
/- Rounds: loops over functions. No program in sight. -/
namespace Go.Sy

/-! ### What is handed to a function that is ranged over, and to a round -/

def Snap.leB (l : Nat) (σ σ' : Snap) : Prop := (σ.set l none).le σ'

theorem Snap.leB.cle {l : Nat} {σ σ' : Snap} {r : Loop} (h : σ.leB l σ') (hl : σ l = some (.loop r)) : σ.cle σ' := by
  intro a v hv
  refine Snap.le.cell h ?_
  rw [Snap.cell_set (fun o e => by rw [hl] at e; injection e with e; subst e; rfl) (fun _ e => by cases e)]
  exact hv
theorem Snap.leB.at_ {l : Nat} {σ σ' : Snap} (h : σ.leB l σ') {b : Nat} {o : Obj} (hb : b ≠ l) (ho : σ b = some o) : σ' b = some o := h b o (by rw [Snap.set_ne hb]; exact ho)

/-- A call's own, at its start, where the record l may turn. -/
abbrev cfL (P : Program) (w : World) (σ : Snap) (A : List AE) (l : Nat) (N : Nat) (rd : Option Nat) : Cf := ⟨P, w, σ.set l none, fun b => blks A b ∨ b = l, N, [], rd⟩

def postI (P : Program) (w : World) (σ : Snap) (A : List AE) (l : Nat) (Φ : Value → Snap → List AE → Prop) : Ending → World → Prop :=
  fun e w' => ∃ v σ' A', e = .returned v ∧ StW (cfL P w σ A l 0 none) σ' [] A' β0 w' ∧ Φ v σ' A'

/-- ONE ROUND: what yield does. -/
def RoundC (P : Program) (l : Nat) (r : Loop) (args : Array Value) (σ : Snap) (A : List AE) (Φ : Value → Snap → List AE → Prop) : Prop :=
  ∀ w, StW (cfL P w σ A l 0 none) σ [] A β0 w → RoundIn (FR none) 0 P l r.fn ((r.params.zip args).foldl (fun tmps (t, a) => tmps.setIfInBounds t a) r.tmps) r.assign r.body w (postI P w σ A l Φ)

/-- THE FUNCTION THAT IS RANGED OVER. -/
def IterC (P : Program) (f : FuncId) (args : Array Value) (l : Nat) (σ : Snap) (A : List AE) (Φ : Value → Snap → List AE → Prop) : Prop :=
  ∀ w, StW (cfL P w σ A l 0 none) σ [] A β0 w → Calls P f args w (postI P w σ A l Φ)

section
variable {cf : Cf} {σ : Snap} {hp : HP} {A : List AE} {β : Nat → Addr} {w : World}

theorem StW.bareM {P : Program} {w0 w : World} {σ0 σ : Snap} {M : Nat → Prop} {N : Nat} {ds : List Deferred} {rd : Option Nat} {hp : HP} {A : List AE} {β : Nat → Addr} (h : StW ⟨P, w0, σ0, M, N, ds, rd⟩ σ hp A β w) (N' : Nat) (ds' : List Deferred) (rd' : Option Nat) (β' : Nat → Addr) :
    StW ⟨P, w0, σ0, M, N', ds', rd'⟩ σ [] A β' w where
  os := h.os
  tape := h.tape
  output := h.output
  size := h.size
  fr := h.fr
  sealed := h.sealed
  le := h.le
  grow := h.grow
  loc := fun _ _ _ h => by cases h
  ro := fun _ _ h => by cases h
  inj := fun _ _ _ _ _ _ h => by cases h
  arr := fun i E hE => h.arr i E hE
  arrd := h.arrd
  arrh := fun _ _ _ _ _ _ h => by cases h

theorem StW.re {P : Program} {w0 w : World} {σ0 σ : Snap} {M : Nat → Prop} {N : Nat} {ds : List Deferred} {rd : Option Nat} {hp : HP} {A : List AE} {β : Nat → Addr} (h : StW ⟨P, w0, σ0, M, N, ds, rd⟩ σ hp A β w) (N' : Nat) (ds' : List Deferred) (rd' : Option Nat) :
    StW ⟨P, w0, σ0, M, N', ds', rd'⟩ σ hp A β w :=
  ⟨h.os, h.tape, h.output, h.size, h.fr, h.sealed, h.le, h.grow, h.loc, h.ro, h.inj, h.arr, h.arrd, h.arrh⟩

theorem StW.handInL {l : Nat} {A0 Ar : List AE} (h : StW cf σ hp (A0 ++ Ar) β w) : StW (cfL cf.P w σ A0 l 0 none) σ [] A0 β0 w where
  os := rfl
  tape := rfl
  output := rfl
  size := Nat.le_refl _
  fr := fun _ _ _ => rfl
  sealed := h.sealed
  le := fun b o (hb : σ.set l none b = some o) => by
    by_cases hbl : b = l
    · subst hbl; rw [Snap.set_self] at hb; cases hb
    · rw [Snap.set_ne hbl] at hb; exact hb
  grow := fun b hb => by
    by_cases hbl : b = l
    · exact .inr (.inr (.inr hbl))
    · left; show σ.set l none b ≠ none; rw [Snap.set_ne hbl]; exact hb
  loc := fun _ _ _ h => by cases h
  ro := fun _ _ h => by cases h
  inj := fun _ _ _ _ _ _ h => by cases h
  arr := fun i E hE => by
    have hlt := (List.getElem?_eq_some_iff.1 hE).1
    obtain ⟨h1, h2⟩ := h.arr i E (by rw [List.getElem?_append_left hlt]; exact hE)
    refine ⟨h1, h2.imp id ?_⟩
    rintro ⟨g, cur, h3, h4, h5, h6, h7, h8, h9, h10⟩
    exact ⟨g, cur, h3, h4, h5, h6, h7, h8, h9, .inr (.inl ⟨E, List.mem_of_getElem? hE, by simp [AE.blk, h3]⟩)⟩
  arrd := fun i j E F hE hF hij => by
    have hi := (List.getElem?_eq_some_iff.1 hE).1
    have hj := (List.getElem?_eq_some_iff.1 hF).1
    exact h.arrd i j E F (by rw [List.getElem?_append_left hi]; exact hE) (by rw [List.getElem?_append_left hj]; exact hF) hij
  arrh := fun _ _ _ _ _ _ h => by cases h

/-- What is kept through such a call. -/
theorem StW.throughL {w' : World} {σ' : Snap} {l : Nat} {o : Obj} {A0 Ar A1 : List AE} (h : StW cf σ hp (A0 ++ Ar) β w) (hl : σ l = some o) (ho : nocell o = true) (h0 : cf.σ0 l = none)
    (h' : StW (cfL cf.P w σ A0 l 0 none) σ' [] A1 β0 w') : StW cf σ' hp (A1 ++ Ar) β w' := by
  have hlw := h.sealed _ _ hl
  have hlo := h.own_of hl h0
  have hcells : ∀ {c : Nat} {cs : Array Value} {e : TypeId} {f : Nat × Nat}, w.heap[c]? = some (.cells cs e f) → c ≠ l := fun hc e => by subst e; rw [hlw] at hc; injection hc with hc; subst hc; cases ho
  have hin0 : ∀ {E}, E ∈ A0 → ∃ i, (A0 ++ Ar)[i]? = some E ∧ i < A0.length := by
    intro E hE
    obtain ⟨i, hi⟩ := List.getElem?_of_mem hE
    have hlt := (List.getElem?_eq_some_iff.1 hi).1
    exact ⟨i, by rw [List.getElem?_append_left hlt]; exact hi, hlt⟩
  have hblk : ∀ {b}, blks A0 b → ∃ i E, (A0 ++ Ar)[i]? = some E ∧ E.blk = some b ∧ i < A0.length := by
    rintro b ⟨E, hE, hb⟩
    obtain ⟨i, hi, hlt⟩ := hin0 hE
    exact ⟨i, E, hi, hb, hlt⟩
  have hown : ∀ {b}, (blks A0 b ∨ b = l) → Own cf b := by
    rintro b (hb | hb)
    · obtain ⟨i, E, hi, hE, _⟩ := hblk hb
      exact ((h.arr i E hi).lt hE).2.2
    · subst hb; exact hlo
  have hold : ∀ b, b < w.heap.size → ¬ (blks A0 b ∨ b = l) → w'.heap[b]? = w.heap[b]? := h'.fr
  have hσ : ∀ b, b < w.heap.size → ¬ (blks A0 b ∨ b = l) → σ b = none → σ' b = none := by
    intro b hb hnb hn
    cases hb' : σ' b with
    | none => rfl
    | some o =>
      rcases h'.grow b (by rw [hb']; simp) with h1 | h1 | h1
      · have h1 : σ.set l none b ≠ none := h1
        exact absurd hn (by rw [Snap.set_ne (fun e => hnb (.inr e))] at h1; exact h1)
      · have : w.heap.size ≤ b := h1
        omega
      · exact absurd h1 hnb
  have hold' : ∀ {b}, Own (cfL cf.P w σ A0 l 0 none) b → Own cf b := by
    rintro b (h1 | h1)
    · exact .inl (Nat.le_trans h.size h1)
    · exact hown h1
  have hget : ∀ {j : Nat} {E : AE}, (A1 ++ Ar)[j]? = some E → (j < A1.length ∧ A1[j]? = some E) ∨ (A1.length ≤ j ∧ (A0 ++ Ar)[A0.length + (j - A1.length)]? = some E) := by
    intro j E hj
    by_cases hlt : j < A1.length
    · rw [List.getElem?_append_left hlt] at hj; exact .inl ⟨hlt, hj⟩
    · rw [List.getElem?_append_right (by omega)] at hj
      refine .inr ⟨by omega, ?_⟩
      rw [List.getElem?_append_right (by omega), Nat.add_sub_cancel_left]; exact hj
  have hnew : ∀ {E : AE} {j : Nat} {b : Nat}, A1[j]? = some E → E.blk = some b → w.heap.size ≤ b ∨ (blks A0 b ∨ b = l) := by
    intro E j b hE hb
    rcases ((h'.arr j E hE).lt hb).2.2 with h1 | h1
    · exact .inl h1
    · exact .inr h1
  have hkept : ∀ {F : AE} {k : Nat} {b : Nat}, A0.length ≤ k → (A0 ++ Ar)[k]? = some F → F.blk = some b → b < w.heap.size ∧ ¬ (blks A0 b ∨ b = l) := by
    intro F k b hk hF hb
    refine ⟨((h.arr k F hF).lt hb).1, ?_⟩
    rintro (hc | hc)
    · obtain ⟨i, E, hi, hE, hlt⟩ := hblk hc
      exact h.arrd i k E F hi hF (by omega) b hE hb
    · subst hc
      obtain ⟨_, h2⟩ := h.arr k F hF
      rcases h2 with ⟨h3, _⟩ | ⟨g, cur, h3, h4, _⟩
      · simp [AE.blk, h3] at hb
      · simp only [AE.blk, h3, Option.map_some, Option.some.injEq] at hb
        subst hb
        exact hcells h4 rfl
  have hcle : σ.cle σ' := by
    intro a v hv
    refine Snap.le.cell h'.le ?_
    rw [Snap.cell_set (h.nocell_of hlw ho) (fun _ e => by cases e)]
    exact hv
  refine ⟨h'.os.trans h.os, h'.tape.trans h.tape, h'.output.trans h.output, Nat.le_trans h.size h'.size, fun b hb hm => ?_, h'.sealed, fun b o hb => h'.le b o ?_, fun b hb => ?_, fun i e cs hi => ?_, fun i cs hi j c hc => hcle _ _ (h.ro i cs hi j c hc), h.inj, fun i E hE => ?_,
    fun i j E F hE hF hij => ?_, fun i j E e cs hE hj => ?_⟩
  · have hnb : ¬ (blks A0 b ∨ b = l) := fun hc => by
      rcases hown hc with h1 | h1
      · omega
      · exact hm h1
    rw [hold b (Nat.lt_of_lt_of_le hb h.size) hnb]; exact h.fr b hb hm
  · have hbl : b ≠ l := fun e => by subst e; rw [h0] at hb; cases hb
    show (σ.set l none) b = some o
    rw [Snap.set_ne hbl]; exact h.le b o hb
  · rcases h'.grow b hb with h1 | h1
    · refine h.grow b fun hn => h1 ?_
      show (σ.set l none) b = none
      by_cases hbl : b = l
      · subst hbl; exact Snap.set_self ..
      · rw [Snap.set_ne hbl]; exact hn
    · exact .inr (hold' h1)
  · obtain ⟨h1, h2, h3, h4⟩ := h.loc i e cs hi
    have hlt := (Array.getElem?_eq_some_iff.1 h2).1
    have hnb : ¬ (blks A0 (β i).block ∨ (β i).block = l) := by
      rintro (hc | hc)
      · obtain ⟨k, E, hk, hE, _⟩ := hblk hc
        exact h.arrh k i E e cs hk hi hE
      · exact hcells h2 hc
    exact ⟨h1, by rw [hold _ hlt hnb]; exact h2, hσ _ hlt hnb h3, h4⟩
  · rcases hget hE with ⟨_, hE'⟩ | ⟨hle, hE'⟩
    · obtain ⟨h1, h2⟩ := h'.arr i E hE'
      refine ⟨h1, h2.imp id ?_⟩
      rintro ⟨g, cur, h3, h4, h5, h6, h7, h8, h9, h10⟩
      exact ⟨g, cur, h3, h4, h5, h6, h7, h8, h9, hold' h10⟩
    · obtain ⟨h1, h2⟩ := h.arr _ E hE'
      refine ⟨h1, h2.imp id ?_⟩
      rintro ⟨g, cur, h3, h4, h5, h6, h7, h8, h9, h10⟩
      obtain ⟨hlt, hnb⟩ := hkept (by omega) hE' (b := g) (by simp [AE.blk, h3])
      exact ⟨g, cur, h3, by rw [hold g hlt hnb]; exact h4, h5, h6, h7, h8, hσ g hlt hnb h9, h10⟩
  · intro b hEb hFb
    rcases hget hE with ⟨hi, hE'⟩ | ⟨hi, hE'⟩ <;> rcases hget hF with ⟨hj, hF'⟩ | ⟨hj, hF'⟩
    · exact h'.arrd i j E F hE' hF' hij b hEb hFb
    · obtain ⟨hlt, hnb⟩ := hkept (by omega) hF' hFb
      rcases hnew hE' hEb with h1 | h1
      · omega
      · exact hnb h1
    · obtain ⟨hlt, hnb⟩ := hkept (by omega) hE' hEb
      rcases hnew hF' hFb with h1 | h1
      · omega
      · exact hnb h1
    · exact h.arrd _ _ E F hE' hF' (by omega) b hEb hFb
  · intro hb
    obtain ⟨h1, h2, h3, h4⟩ := h.loc j e cs hj
    have hlt := (Array.getElem?_eq_some_iff.1 h2).1
    rcases hget hE with ⟨_, hE'⟩ | ⟨_, hE'⟩
    · rcases hnew hE' hb with h5 | h5 | h5
      · omega
      · obtain ⟨k, G, hk, hG, _⟩ := hblk h5
        exact h.arrh k j G e cs hk hj hG
      · exact hcells h2 h5
    · exact h.arrh _ j E e cs hE' hj hb
end

/-! ### The function that is ranged over -/

/-- Entering, whatever is asked at the end. -/
theorem enter_raw {P : Program} {f : FuncId} {fn : Func} {c : Code} {args : Array Value} {w : World} {M : Nat → Prop} {σ0 σ : Snap} {R : Ending → World → Prop}
    (hf : P.funcs[f]? = some fn) (hb : fn.body = some c) (svs : List SV) (A : List AE) (hargs : args = (svs.map (SV.den β0)).toArray) (hN : Nat.ble svs.length fn.ntmps = true)
    (hlt : LtAll svs) (hw : StW ⟨P, w, σ0, M, fn.ntmps, [], none⟩ σ [] A β0 w)
    (h : CJ ⟨P, w, σ0, M, fn.ntmps, [], none⟩ c (bodyPost P fn R) σ (argEnv 0 svs) [] A 0) : Calls P f args w R := by
  have hN := Nat.le_of_ble_eq_true hN
  have hlt := hlt.of
  refine calls_of_wp hf hb (wpR_none (h.run ⟨fun i x hx => ?_, fun _ _ _ h => by cases h⟩ _ β0 w ⟨?_, rfl, fun i x hx => ?_⟩ hw))
  · obtain ⟨_, h2⟩ := argEnv_get svs 0 i x hx
    exact hlt x (List.mem_of_getElem? h2)
  · subst hargs
    simp only [Array.size_append, List.size_toArray, List.length_map, Array.size_replicate]
    omega
  · obtain ⟨_, h2⟩ := argEnv_get svs 0 i x hx
    simp only [Nat.sub_zero] at h2
    subst hargs
    rw [Array.getElem?_append_left (by simp; exact (List.getElem?_eq_some_iff.1 h2).1)]
    simp [h2]

theorem enter_it {P : Program} {f : FuncId} {fn : Func} {c : Code} {svs : List SV} {l : Nat} {σ : Snap} {A : List AE} {Φ : Value → Snap → List AE → Prop}
    (hf : P.funcs[f]? = some fn) (hb : fn.body = some c) (hN : Nat.ble svs.length fn.ntmps = true) (hlt : LtAll svs)
    (h : ∀ w, CJ (cfL P w σ A l fn.ntmps none) c (bodyPost P fn (postI P w σ A l Φ)) σ (argEnv 0 svs) [] A 0) : IterC P f (svs.map (SV.den β0)).toArray l σ A Φ :=
  fun w hw => enter_raw hf hb svs A rfl hN hlt (hw.re _ _ _) (h w)

theorem nj_iret {P : Program} {w0 : World} {σ0 : Snap} {A0 : List AE} {l N : Nat} {T : List (Nat × TI)} (hT : TTok P T) {fn : Func} {Φ : Value → Snap → List AE → Prop} {σ : Snap} {env : Env} {hp : HP} {A : List AE} {nh : Nat}
    {xs : List S1} (hr : resL T env hp fn.results.toList = some xs) (h : ∀ β, Φ ((resSV xs).den β) σ A) :
    NJ (cfL P w0 σ0 A0 l N none) .ret (bodyPost P fn (postI P w0 σ0 A0 l Φ)) σ env hp A nh := ⟨fun hb _ β _ ha hw =>
  ⟨ha.defers, _, results_ok (cf := cfL P w0 σ0 A0 l N none) hT ha hb hw hr, _, σ, A, rfl, hw.bareM _ _ _ _, h β⟩⟩
theorem nj_iend {P : Program} {w0 : World} {σ0 : Snap} {A0 : List AE} {l N : Nat} {T : List (Nat × TI)} (hT : TTok P T) {fn : Func} {Φ : Value → Snap → List AE → Prop} {σ : Snap} {env : Env} {hp : HP} {A : List AE} {nh : Nat}
    {xs : List S1} (hr : resL T env hp fn.results.toList = some xs) (h : ∀ β, Φ ((resSV xs).den β) σ A) :
    NJ (cfL P w0 σ0 A0 l N none) .normal (bodyPost P fn (postI P w0 σ0 A0 l Φ)) σ env hp A nh := ⟨fun hb _ β _ ha hw =>
  ⟨ha.defers, _, results_ok (cf := cfL P w0 σ0 A0 l N none) hT ha hb hw hr, _, σ, A, rfl, hw.bareM _ _ _ _, h β⟩⟩

section
variable {cf : Cf} {Q : Exit → Act → World → Prop} {σ : Snap} {env : Env} {hp : HP} {A : List AE} {nh : Nat} {it : Item} {rest : List Item}

/-- Which record's yield is called, with which arguments. -/
def yieldee (env : Env) (op : Op) : Option (Nat × List SV) :=
  match op with
  | .call c =>
    match c.callee with
    | .value f =>
      match evalO env f, evalL env c.args.toList with
      | some (.a (.fn (.yield l) [])), some ys => some (l, ys)
      | _, _ => none
    | _ => none
  | _ => none

theorem yieldee_ok {β : Nat → Addr} {a : Act} {w : World} (ha : StA cf env β a) {o : Oper} {l : Nat} {ys : List SV} {r : Loop} (h : yieldee env o.op = some (l, ys)) (hl : w.heap[l]? = some (.loop r)) (hs : Nat.beq ys.length r.params.size = true) :
    (execOp a.eval o).run cf.P w = .ok (.round l r.fn ((r.params.zip (ys.map (SV.den β)).toArray).foldl (fun tmps (t, a) => tmps.setIfInBounds t a) r.tmps) r.assign r.body) w := by
  unfold yieldee at h
  split at h
  · rename_i c hop
    split at h
    · rename_i fo hcal
      split at h
      · rename_i g zs hf hz
        injection h with h
        simp only [Prod.mk.injEq] at h
        obtain ⟨rfl, rfl⟩ := h
        have h1 : a.eval fo = .func (.yield g) #[] #[] := evalO_eval ha hf
        have h2 : c.args.map a.eval = (zs.map (SV.den β)).toArray := by
          have := evalL_ok ha _ _ hz
          rw [← this, ← Array.toList_map]
        simp only [execOp, hop, resolve, hcal, h1, h2, Deferred.ofValue, Sem.run_bind, Sem.run_pure, Result.andThen_ok, invoke, Array.empty_append]
        exact run_yield hl (by simpa using hs)
      · cases h
    · cases h
  · cases h

/-- A call of yield. -/
theorem oj_yield {d l : Nat} {r : Loop} {ys : List SV} {Φ : Value → Snap → List AE → Prop} (is : List Nat) {A0 Ar : List AE} (hl : σ l = some (.loop r)) (h0 : cf.σ0 l = none) (hA : reA is A = A0 ++ Ar) (hn : nodupB is = true)
    (hc : yieldee env it.o.op = some (l, ys)) (hs : Nat.beq ys.length r.params.size = true) (hd : it.o.dst = some d) (hg : guardVal it.guard env = some true)
    (hN : Nat.blt d cf.N = true) (htag : canSink it.tag = true) (hlt : LtAll ys)
    (hC : RoundC cf.P l r (ys.map (SV.den β0)).toArray σ A0 Φ)
    (k : ∀ v σ' A', σ.leB l σ' → Φ v σ' A' → ∃ y : SV, y.lt 0 ∧ y.den β0 = v ∧ OJ cf rest Q σ' ((d, y) :: env) hp (A' ++ Ar) nh) : OJ cf (it :: rest) Q σ env hp A nh := by
  refine ⟨fun hb a β ha hex => ?_⟩
  have hN' : d < cf.N := by simpa [Nat.blt_eq] using hN
  have den0 : ∀ {y : SV}, y.lt 0 → y.den β = y.den β0 := fun hy => SV.den_congr (n := 0) (fun i hi => by omega) hy
  have hargs : (ys.map (SV.den β)).toArray = (ys.map (SV.den β0)).toArray := by
    rw [List.map_congr_left fun y hy => den0 (hlt.of y hy)]
  have key : ∀ w, StW cf σ hp A β w → ∀ Q', it.o.wq cf.P a w (fun a' w' => ∃ E' S' : World → Prop, S' w' ∧ (∀ x, S' x → E' x) ∧ RunT cf.P Q rest E' S' a') Q' := by
    intro w hw Q'
    have hw2 : StW cf σ hp (A0 ++ Ar) β w := by rw [← hA]; exact hw.reA hn
    unfold Oper.wq
    rw [yieldee_ok ha hc (hw.sealed _ _ hl) hs]
    simp only [Oper.uponIn]
    rw [hargs]
    refine ⟨fun h => (by cases h), RoundIn.mono (round_FR (hC w hw2.handInL)) fun e w' ⟨v, σ', A', he, h4, h5⟩ => ?_⟩
    subst he
    obtain ⟨y, hy, hyv, hk⟩ := k v σ' A' h4.le h5
    have hw' := hw2.throughL hl rfl h0 h4
    refine ⟨_, _, hw', fun _ h => h, ?_⟩
    have := hk.run (hb.put (SV.lt_mono (Nat.zero_le _) hy) d) (a.put (some d) (y.den β)) β (ha.put hN' y) ⟨_, hw'⟩
    rw [hd, ← hyv, ← den0 hy]
    exact this
  simp only [RunT]
  rw [if_pos (guardVal_ok ha hg)]
  cases htag' : it.tag with
  | pure => rw [htag'] at htag; cases htag
  | quiet => rw [htag'] at htag; cases htag
  | keep => rw [htag'] at htag; cases htag
  | sink => exact fun w hw => key w hw _
  | free => exact fun w hw => key w hw _
end

/-! ### A round -/

def parEnv : List Nat → List SV → Env → Env
  | p :: ps, y :: ys, env => parEnv ps ys ((p, y) :: env)
  | _, _, env => env

def allBlt (N : Nat) : List Nat → Bool
  | [] => true
  | p :: ps => Nat.blt p N && allBlt N ps

theorem StA.params {cf : Cf} : ∀ (ps : List Nat) (ys : List SV) (env : Env) (a : Act), ps.length = ys.length → allBlt cf.N ps = true → StA cf env β0 a →
    StA cf (parEnv ps ys env) β0 { a with tmps := (ps.zip (ys.map (SV.den β0))).foldl (fun tmps x => tmps.setIfInBounds x.1 x.2) a.tmps }
  | [], [], env, a, _, _, ha => ha
  | [], _ :: _, env, a, h, _, _ => by simp at h
  | _ :: _, [], env, a, h, _, _ => by simp at h
  | p :: ps, y :: ys, env, a, h, hN, ha => by
    simp only [allBlt, Bool.and_eq_true, Nat.blt_eq] at hN
    have := StA.params ps ys ((p, y) :: env) (a.put (some p) (y.den β0)) (by simpa using h) hN.2 (ha.put hN.1 y)
    exact this

theorem parEnv_lt {n : Nat} : ∀ (ps : List Nat) (ys : List SV) (env : Env), LtAll ys → EnvLt n env → EnvLt n (parEnv ps ys env)
  | [], [], _, _, h => h
  | [], _ :: _, _, _, h => h
  | _ :: _, [], _, _, h => h
  | _ :: ps, _ :: ys, _, hy, h => parEnv_lt ps ys _ hy.2 ⟨SV.lt_mono (Nat.zero_le _) hy.1, h⟩

/-- What is asked behind the assignment of a round. -/
def beginQ (P : Program) (l : Nat) (body : Code) (R : Ending → World → Prop) : Exit → Act → World → Prop :=
  Exit.then (fun a w => ∃ w', (Instr.beginRound l).run P w = .ok () w' ∧ body.wpIn (FR (some l)) 0 P (roundPost P l R) a w') (fun _ _ _ => False)

/-- A ROUND, out of its body. -/
theorem roundC_of {P : Program} {l : Nat} {r : Loop} {ys : List SV} {σ : Snap} {A : List AE} {Φ : Value → Snap → List AE → Prop} {N : Nat} {env : Env} (hsz : r.tmps.size = N) (henv : ∀ i x, env.get i = some x → r.tmps[i]? = some (x.den β0))
    (ps : List Nat) (hps : r.params = ps.toArray) (hlen : Nat.beq ps.length ys.length = true) (hpN : allBlt N ps = true) (hlt : LtAll ys) (he : EnvLt 0 env)
    (h : ∀ w, CJ (cfL P w σ A l N (some l)) r.assign (beginQ P l r.body (postI P w σ A l Φ)) σ (parEnv ps ys env) [] A 0) : RoundC P l r (ys.map (SV.den β0)).toArray σ A Φ := by
  intro w hw
  refine round_FR (rd := none) (n := 0) (roundIn_of_wpIn (F := FR none) trivial ?_)
  have ha : StA (cfL P w σ A l N (some l)) env β0 ⟨r.tmps, []⟩ := ⟨hsz, rfl, henv⟩
  have ha' := ha.params ps ys env ⟨r.tmps, []⟩ (Nat.eq_of_beq_eq_true hlen) hpN
  have hz : (r.params.zip (ys.map (SV.den β0)).toArray).foldl (fun tmps (x : Nat × Value) => tmps.setIfInBounds x.1 x.2) r.tmps = (ps.zip (ys.map (SV.den β0))).foldl (fun tmps x => tmps.setIfInBounds x.1 x.2) r.tmps := by
    rw [hps, ← Array.foldl_toList]
    simp
  have hrun := (h w).run (Bd.of (parEnv_lt ps ys env hlt he) trivial) _ β0 w ha' (hw.re _ _ _)
  rw [← hz] at hrun
  exact hrun

section
variable {P : Program} {w0 : World} {σ0 : Snap} {A0 : List AE} {l N : Nat} {σ : Snap} {env : Env} {hp : HP} {A : List AE} {nh : Nat} {r : Loop}

/-- The round begins. -/
theorem nj_begin {body : Code} {R : Ending → World → Prop} (hl : σ l = some (.loop r)) (hr : r.state = .ready) (h0 : σ0.set l none l = none)
    (h : CJ (cfL P w0 σ0 A0 l N (some l)) body (roundPost P l R) (σ.set l (some (.loop { r with state := .busy }))) env hp A nh) : NJ (cfL P w0 σ0 A0 l N (some l)) .normal (beginQ P l body R) σ env hp A nh := by
  refine ⟨fun hb a β w ha hw => ⟨_, run_beginRound (hw.sealed _ _ hl) hr, h.run hb a β _ ha ?_⟩⟩
  exact hw.turn hl rfl rfl h0

theorem nj_rndN {Φ : Value → Snap → List AE → Prop} (hl : σ l = some (.loop r)) (h : Φ (.bool true) (σ.set l (some (.loop { r with state := .ready, pending := none }))) A) :
    NJ (cfL P w0 σ0 A0 l N (some l)) .normal (roundPost P l (postI P w0 σ0 A0 l Φ)) σ env hp A nh :=
  ⟨fun _ _ _ _ _ hw => ⟨_, _, run_endRound none (hw.sealed _ _ hl), _, _, A, rfl, (hw.turn hl rfl rfl (Snap.set_self ..)).bareM _ _ _ _, h⟩⟩
theorem nj_rndR {Φ : Value → Snap → List AE → Prop} (hl : σ l = some (.loop r)) (h : Φ (.bool false) (σ.set l (some (.loop { r with state := .done, pending := some .ret }))) A) :
    NJ (cfL P w0 σ0 A0 l N (some l)) .ret (roundPost P l (postI P w0 σ0 A0 l Φ)) σ env hp A nh :=
  ⟨fun _ _ _ _ _ hw => ⟨_, _, run_endRound (some .ret) (hw.sealed _ _ hl), _, _, A, rfl, (hw.turn hl rfl rfl (Snap.set_self ..)).bareM _ _ _ _, h⟩⟩
theorem nj_rndX {id : Nat} {Φ : Value → Snap → List AE → Prop} (hl : σ l = some (.loop r)) (h : Φ (.bool false) (σ.set l (some (.loop { r with state := .done, pending := some (.exit id) }))) A) :
    NJ (cfL P w0 σ0 A0 l N (some l)) (.exit id) (roundPost P l (postI P w0 σ0 A0 l Φ)) σ env hp A nh :=
  ⟨fun _ _ _ _ _ hw => ⟨_, _, run_endRound (some (.exit id)) (hw.sealed _ _ hl), _, _, A, rfl, (hw.turn hl rfl rfl (Snap.set_self ..)).bareM _ _ _ _, h⟩⟩
end

/-! ### The loop -/

abbrev markD (D : Nat) : Deferred := { target := .collected D, args := #[] }

/-- 'for .. := range g': an outermost one. -/
theorem cj_rangeFunc {P : Program} {w0 : World} {σ0 : Snap} {M : Nat → Prop} {N : Nat} {ds : List Deferred} {Q : Exit → Act → World → Prop} {σ : Snap} {env : Env} {hp : HP} {A : List AE} {nh : Nat}
    {g : Operand} {ps : Array Tmp} {assign body : Code} {gf : FuncId} {caps : List PT} (is : List Nat) {A0 Ar : List AE} (hA : reA is A = A0 ++ Ar) (hn : nodupB is = true)
    (hg : evalO env g = some (.a (.fn (.func gf) caps))) (hcap : LtAll (caps.map ptSV)) (hlt : EnvLt 0 env) (hcall : ∀ args w, (callFunc gf args).run P w = .ok (.enter gf args) w)
    (Φ : Nat → Nat → Loop → Value → Snap → List AE → Prop)
    (hit : ∀ (fid D l : Nat) (tmps : Array Value), tmps.size = N → (∀ i x, env.get i = some x → tmps[i]? = some (x.den β0)) → D ≠ l → σ D = none → σ l = none → σ0 l = none →
      IterC P gf (((.a (.fn (.yield l) []) :: caps.map ptSV).map (SV.den β0)).toArray) l ((σ.set D (some (.deferred (some [])))).set l (some (.loop ⟨.ready, none, fid, tmps, ps, assign, body, D⟩))) A0 (Φ D l ⟨.ready, none, fid, tmps, ps, assign, body, D⟩))
    (k : ∀ (D l : Nat) (r : Loop) (v : Value) (σ' : Snap) (A' : List AE), Φ D l r v σ' A' → σ0 D = none → σ0 l = none → σ' D = some (.deferred (some [])) → σ.cle σ' → (∀ b o, b ≠ D → b ≠ l → σ b = some o → σ' b = some o) →
      ∃ r', σ' l = some (.loop r') ∧ r'.state ≠ .busy ∧ (match r'.pending with
        | none => NJ ⟨P, w0, σ0, M, N, markD D :: ds, none⟩ .normal Q (σ'.set l none) env hp (A' ++ Ar) nh
        | some c => CJ ⟨P, w0, σ0, M, N, markD D :: ds, none⟩ c Q (σ'.set l none) env hp (A' ++ Ar) nh)) :
    CJ ⟨P, w0, σ0, M, N, ds, none⟩ (.rangeFunc g ps assign body) Q σ env hp A nh := by
  refine ⟨fun hb a β w ha hw => ?_⟩
  have hw2 : StW ⟨P, w0, σ0, M, N, ds, none⟩ σ hp (A0 ++ Ar) β w := by rw [← hA]; exact hw.reA hn
  refine wpIn_rangeFunc fun fid _ => ?_
  have hev : a.eval g = .func (.func gf) #[] (caps.map (PT.den β)).toArray := evalO_eval ha hg
  have hcd : caps.map (PT.den β) = (caps.map ptSV).map (SV.den β0) := by
    rw [List.map_map]
    refine List.map_congr_left fun p hp => ?_
    show p.den β = (ptSV p).den β0
    rw [← ptSV_den β p]
    exact SV.den_congr (n := 0) (fun i hi => by omega) (hcap.of _ (List.mem_map.2 ⟨p, hp, rfl⟩))
  obtain ⟨hD, hwD⟩ := hw2.lay (o := .deferred (some [])) rfl
  obtain ⟨hl, hwl⟩ := hwD.lay (o := .loop ⟨.ready, none, fid, a.tmps, ps, assign, body, w.heap.size⟩) rfl
  have hsz1 : (w.alloc (.deferred (some []))).heap.size = w.heap.size + 1 := Array.size_push ..
  have hne : w.heap.size ≠ (w.alloc (.deferred (some []))).heap.size := by omega
  have hl' : σ (w.alloc (.deferred (some []))).heap.size = none := by rw [← hl, Snap.set_ne (Ne.symm hne)]
  have h0D : σ0 w.heap.size = none := Snap.none_of_le hw2.le hD
  have h0l : σ0 (w.alloc (.deferred (some []))).heap.size = none := Snap.none_of_le hw2.le hl'
  let w1 := (w.alloc (.deferred (some []))).alloc (.loop ⟨.ready, none, fid, a.tmps, ps, assign, body, w.heap.size⟩)
  refine ⟨(w.alloc (.deferred (some []))).heap.size, [markD w.heap.size], w1, ⟨.fn (.func gf) (caps.map (PT.den β)).toArray, #[.func (.yield (w.alloc (.deferred (some []))).heap.size) #[] #[]]⟩, w1, gf,
    #[.func (.yield (w.alloc (.deferred (some []))).heap.size) #[] #[]] ++ (caps.map (PT.den β)).toArray, w1, ?_, ?_, fun _ _ => trivial, ?_, fun h => (by cases h), ?_⟩
  · rw [hsz1]; exact run_enterLoop_outer fid a.tmps ps assign body
  · show (resolve a.eval (rangeCall g _) 0).run P _ = _
    simp only [resolve, hev, Deferred.ofValue, Sem.run_pure, Array.empty_append]
    simp [Act.eval]
  · show (invoke (.fn (.func gf) _) _).run P _ = _
    simp only [invoke]
    exact hcall _ _
  · have henv : ∀ i x, env.get i = some x → a.tmps[i]? = some (x.den β0) := fun i x hx => by
      rw [ha.env i x hx]
      congr 1
      exact SV.den_congr (n := 0) (fun i hi => by omega) ((Bd.of (hp := []) hlt trivial).env i x hx)
    have hI := hit fid w.heap.size (w.alloc (.deferred (some []))).heap.size a.tmps ha.size henv hne hD hl' h0l
    have hargs : (#[.func (.yield (w.alloc (.deferred (some []))).heap.size) #[] #[]] ++ (caps.map (PT.den β)).toArray : Array Value) = (((.a (.fn (.yield (w.alloc (.deferred (some []))).heap.size) []) :: caps.map ptSV).map (SV.den β0)).toArray) := by
      rw [hcd]
      simp [SV.den, AT.den]
    rw [hargs]
    refine callsIn_FR.2 (Calls.mono (hI _ hwl.handInL) ?_)
    rintro e w' ⟨v, σ', A', rfl, h4, h5⟩
    have hσl : ((σ.set w.heap.size (some (.deferred (some [])))).set (w.alloc (.deferred (some []))).heap.size (some (.loop ⟨.ready, none, fid, a.tmps, ps, assign, body, w.heap.size⟩))) (w.alloc (.deferred (some []))).heap.size = some (.loop ⟨.ready, none, fid, a.tmps, ps, assign, body, w.heap.size⟩) := Snap.set_self ..
    have hw' := hwl.throughL hσl rfl h0l h4
    have hle : ∀ b o, b ≠ w.heap.size → b ≠ (w.alloc (.deferred (some []))).heap.size → σ b = some o → σ' b = some o := fun b o h1 h2 h3 => h4.le b o (by
      show Snap.set _ _ none b = some o
      rw [Snap.set_ne h2, Snap.set_ne h2, Snap.set_ne h1]; exact h3)
    have hσD : σ' w.heap.size = some (.deferred (some [])) := h4.le _ _ (by
      show Snap.set _ _ none _ = _
      rw [Snap.set_ne hne, Snap.set_ne hne, Snap.set_self])
    have hcle : σ.cle σ' := by
      intro ad x hx
      refine Snap.le.cell h4.le ?_
      show Snap.cell (Snap.set _ _ none) ad = _
      rw [Snap.cell_set (fun o e => by rw [Snap.set_self] at e; injection e with e; subst e; rfl) (fun _ e => by cases e), Snap.cell_set (fun o e => by rw [Snap.set_ne (Ne.symm hne), hl'] at e; cases e) (fun o e => by injection e with e; subst e; rfl),
        Snap.cell_set (fun o e => by rw [hD] at e; cases e) (fun o e => by injection e with e; subst e; rfl)]
      exact hx
    obtain ⟨r', hr1, hr2, hk⟩ := k _ _ _ v σ' A' h5 h0D h0l hσD hcle hle
    have hfin := hw'.swap (w' := w'.putObj (w.alloc (.deferred (some []))).heap.size (.loop { r' with state := .exhausted })) none (hw'.sealed _ _ hr1) rfl h0l (hw'.own_of hr1 h0l) rfl rfl rfl (by simp) (fun c hc => World.putObj_heap_other hc) fun _ e => (by cases e)
    refine ⟨r'.pending, _, run_endLoop (hw'.sealed _ _ hr1) hr2, ?_⟩
    generalize w'.putObj (w.alloc (.deferred (some []))).heap.size (.loop { r' with state := .exhausted }) = wf at hfin
    have ha2 : StA ⟨P, w0, σ0, M, N, markD w.heap.size :: ds, none⟩ env β { a with defers := [markD w.heap.size] ++ a.defers } := ⟨ha.size, by show _ ++ a.defers = _; rw [ha.defers]; rfl, ha.env⟩
    cases hp' : r'.pending with
    | none =>
      rw [hp'] at hk
      exact hk.run hb _ β _ ha2 (hfin.re _ _ _)
    | some c =>
      rw [hp'] at hk
      exact hk.run hb _ β _ ha2 (hfin.re _ _ _)

/-! ### A function that holds such a loop -/

theorem enter_m {P : Program} {f : FuncId} {fn : Func} {c : Code} {args : Array Value} {w : World} {M : Nat → Prop} {σ0 σ : Snap} {R : Ending → World → Prop}
    (hf : P.funcs[f]? = some fn) (hb : fn.body = some c) (svs : List SV) (A : List AE) (hargs : args = (svs.map (SV.den β0)).toArray) (hN : Nat.ble svs.length fn.ntmps = true)
    (hlt : LtAll svs) (hw : StW ⟨P, w, σ0, M, fn.ntmps, [], none⟩ σ [] A β0 w)
    (h : CJ ⟨P, w, σ0, M, fn.ntmps, [], none⟩ c (bodyPostM (FR none) 0 P fn R) σ (argEnv 0 svs) [] A 0) : Calls P f args w R := by
  have hN := Nat.le_of_ble_eq_true hN
  have hlt := hlt.of
  refine callsIn_FR.1 (callsIn_of_wp_marks (F := FR none) (n := 0) hf hb trivial (h.run ⟨fun i x hx => ?_, fun _ _ _ h => by cases h⟩ _ β0 w ⟨?_, rfl, fun i x hx => ?_⟩ hw))
  · obtain ⟨_, h2⟩ := argEnv_get svs 0 i x hx
    exact hlt x (List.mem_of_getElem? h2)
  · subst hargs
    simp only [Array.size_append, List.size_toArray, List.length_map, Array.size_replicate]
    omega
  · obtain ⟨_, h2⟩ := argEnv_get svs 0 i x hx
    simp only [Nat.sub_zero] at h2
    subst hargs
    rw [Array.getElem?_append_left (by simp; exact (List.getElem?_eq_some_iff.1 h2).1)]
    simp [h2]

theorem enter_mp {P : Program} {f : FuncId} {fn : Func} {c : Code} {svs : List SV} {σ : Snap} {Φ : Value → Prop}
    (hf : P.funcs[f]? = some fn) (hb : fn.body = some c) (hN : Nat.ble svs.length fn.ntmps = true) (hlt : LtAll svs)
    (h : ∀ w, CJ ⟨P, w, σ, fun _ => False, fn.ntmps, [], none⟩ c (bodyPostM (FR none) 0 P fn (postR w (fun _ => False) σ (fun v _ _ => Φ v))) σ (argEnv 0 svs) [] [] 0) : PlainS P f svs σ Φ :=
  fun w hs => enter_m hf hb svs [] rfl hN hlt (StW.start hs β0) (h w)

section
variable {P : Program} {w0 : World} {σ0 : Snap} {M : Nat → Prop} {N : Nat} {T : List (Nat × TI)} {fn : Func} {Post : Value → World → Snap → Prop} {σ : Snap} {env : Env} {hp : HP} {A : List AE} {nh : Nat} {xs : List S1}

/-- It returns ahead of the loop. -/
theorem nj_mret0 (hT : TTok P T) (hr : resL T env hp fn.results.toList = some xs) (h : ∀ β w, Bd env hp nh → StW ⟨P, w0, σ0, M, N, [], none⟩ σ hp A β w → Post ((resSV xs).den β) w σ) :
    NJ ⟨P, w0, σ0, M, N, [], none⟩ .ret (bodyPostM (FR none) 0 P fn (postR w0 M σ0 Post)) σ env hp A nh := ⟨fun hb a β w ha hw => by
  show LeavesInM (FR none) 0 P fn a.tmps _ a.defers .returning w
  rw [ha.defers]
  exact ⟨_, results_ok (cf := ⟨P, w0, σ0, M, N, [], none⟩) hT ha hb hw hr, _, σ, rfl, Fr.of hw, SGrow.of hw, hw.sealed, h β w hb hw⟩⟩
/-- It returns behind the loop. -/
theorem nj_mret1 {D : Nat} (hD : σ D = some (.deferred (some []))) (h0 : σ0 D = none) (hT : TTok P T) (hr : resL T env hp fn.results.toList = some xs) (h : ∀ β w, Bd env hp nh → StW ⟨P, w0, σ0, M, N, [], none⟩ (σ.set D none) hp A β w → Post ((resSV xs).den β) w (σ.set D none)) :
    NJ ⟨P, w0, σ0, M, N, [markD D], none⟩ .ret (bodyPostM (FR none) 0 P fn (postR w0 M σ0 Post)) σ env hp A nh := ⟨fun hb a β w ha hw => by
  show LeavesInM (FR none) 0 P fn a.tmps _ a.defers .returning w
  rw [ha.defers]
  have hfin : StW ⟨P, w0, σ0, M, N, [], none⟩ (σ.set D none) hp A β (w.putObj D (.deferred none)) := (hw.swap (w' := w.putObj D (.deferred none)) none (hw.sealed _ _ hD) rfl h0 (hw.own_of hD h0) rfl rfl rfl (by simp) (fun c hc => World.putObj_heap_other hc) fun _ e => (by cases e)).re _ _ _
  have ha' : StA ⟨P, w0, σ0, M, N, [], none⟩ env β ⟨a.tmps, []⟩ := ⟨ha.size, rfl, ha.env⟩
  refine ⟨by simp, .inl ⟨D, _, rfl, run_takeDeferred (hw.sealed _ _ hD), _, results_ok (cf := ⟨P, w0, σ0, M, N, [], none⟩) hT ha' hb hfin hr, _, σ.set D none, rfl, Fr.of hfin, SGrow.of hfin, hfin.sealed, h β _ hb hfin⟩⟩⟩
/-- It ends behind the loop. -/
theorem nj_mend1 {D : Nat} (hD : σ D = some (.deferred (some []))) (h0 : σ0 D = none) (hT : TTok P T) (hr : resL T env hp fn.results.toList = some xs) (h : ∀ β w, Bd env hp nh → StW ⟨P, w0, σ0, M, N, [], none⟩ (σ.set D none) hp A β w → Post ((resSV xs).den β) w (σ.set D none)) :
    NJ ⟨P, w0, σ0, M, N, [markD D], none⟩ .normal (bodyPostM (FR none) 0 P fn (postR w0 M σ0 Post)) σ env hp A nh := ⟨(nj_mret1 hD h0 hT hr h).run⟩
end

/-! ### Tuples -/

def AllS1 (n : Nat) : List S1 → Prop
  | [] => True
  | x :: l => x.lt n ∧ AllS1 n l
theorem SV.lt_tup {n : Nat} : ∀ {l : List S1}, AllS1 n l → (SV.tup l).lt n
  | [], _ => fun _ h => (by cases h)
  | y :: l, h => fun x hx => by
    cases hx with
    | head => exact h.1
    | tail _ hx => exact SV.lt_tup h.2 x hx
end Go.Sy
/- More rules: values in other words; regions whose stores may come among their reads. No program in sight. -/
namespace Go.Sy

section
variable {cf : Cf} {Q : Exit → Act → World → Prop} {σ : Snap} {env : Env} {hp : HP} {A : List AE} {nh : Nat} {it : Item} {rest : List Item}

theorem StA.set {β : Nat → Addr} {a : Act} (t : Nat) {x y : SV} (h : env.get t = some x) (hxy : x.den β = y.den β) (ha : StA cf env β a) : StA cf ((t, y) :: env) β a := by
  refine ⟨ha.size, ha.defers, fun i z hz => ?_⟩
  rw [Env.get_cons] at hz
  by_cases hi : t = i
  · rw [if_pos hi] at hz
    injection hz with hz
    subst hz; subst hi
    rw [← hxy]; exact ha.env t _ h
  · rw [if_neg hi] at hz; exact ha.env i z hz

theorem nj_set {e : Exit} (t : Nat) {x : SV} (y : SV) (h : env.get t = some x) (hy : y.lt nh) (hxy : ∀ β, x.den β = y.den β) (k : NJ cf e Q σ ((t, y) :: env) hp A nh) : NJ cf e Q σ env hp A nh :=
  ⟨fun hb a β w ha hw => k.run (hb.put hy t) a β w (ha.set t h (hxy β)) hw⟩
theorem cj_set {c : Code} (t : Nat) {x : SV} (y : SV) (h : env.get t = some x) (hy : y.lt nh) (hxy : ∀ β, x.den β = y.den β) (k : CJ cf c Q σ ((t, y) :: env) hp A nh) : CJ cf c Q σ env hp A nh :=
  ⟨fun hb a β w ha hw => k.run (hb.put hy t) a β w (ha.set t h (hxy β)) hw⟩

/-! ### A region's stores among its reads: a wider class, W, in which what is read stays what it is -/

structure OW (cf : Cf) (l : List Item) (Q : Exit → Act → World → Prop) (W : (Nat → Addr) → World → Prop) (σ : Snap) (env : Env) (hp : HP) (A : List AE) (nh : Nat) : Prop where
  run : Bd env hp nh → ∀ a β, StA cf env β a → (∃ w, StW cf σ hp A β w) → RunT cf.P Q l (W β) (fun w => StW cf σ hp A β w) a

variable {W : (Nat → Addr) → World → Prop}

theorem cj_drawW {id : Nat} {ops : Array Oper} (l : List (Nat × Tag)) (W : (Nat → Addr) → World → Prop) (hW : ∀ β w, StW cf σ hp A β w → W β w) (hm : cf.P.follows .mixedOrders = true) (hB : orderOk ops l = true)
    (h : OW cf (itemsOf ops l) Q W σ env hp A nh) (hd : okRd cf.rd ops = true := by rfl) : CJ cf (.region id ops true) Q σ env hp A nh :=
  ⟨fun hb a β _ ha hw => wp_of_order l hm hB hd (fun x hx => hW β x hx) hw.drew (h.run hb a β ha ⟨_, hw⟩)⟩

def noQuiet : List Item → Bool
  | [] => true
  | it :: l => (match it.tag with | .quiet => false | _ => true) && noQuiet l

theorem run_wider {P : Program} {E E' : World → Prop} (hE : ∀ w, E w → E' w) : ∀ (l : List Item) (S : World → Prop) (a : Act), noQuiet l = true → RunT P Q l E S a → RunT P Q l E' S a
  | [], _, _, _, h => h
  | it :: l, S, a, hq, h => by
    simp only [noQuiet, Bool.and_eq_true] at hq
    simp only [RunT] at h ⊢
    split
    · rename_i hw
      rw [if_pos hw] at h
      cases htag : it.tag with
      | quiet => rw [htag] at hq; cases hq.1
      | pure =>
        rw [htag] at h
        obtain ⟨v, h1, h2⟩ := h
        exact ⟨v, h1, run_wider hE l S _ hq.2 h2⟩
      | keep =>
        rw [htag] at h
        exact fun w hS => wq_mono (fun a' w' ⟨E1, S1, h1, h2, h3, h4⟩ => ⟨E1, S1, h1, h2, fun x hx => hE x (h3 x hx), h4⟩) (h w hS)
      | sink => rw [htag] at h; exact h
      | free => rw [htag] at h; exact h
    · rename_i hw
      rw [if_neg hw] at h
      exact run_wider hE l S _ hq.2 h

/-- Nothing is left that is read: the class may be the narrow one again. -/
theorem ow_end {l : List Item} (hq : noQuiet l = true) (hW : ∀ β w, StW cf σ hp A β w → W β w) (h : OJ cf l Q σ env hp A nh) : OW cf l Q W σ env hp A nh :=
  ⟨fun hb a β ha hex => run_wider (E := fun w => StW cf σ hp A β w) (fun w hw => hW β w hw) l _ a hq (h.run hb a β ha hex)⟩

/-- One value. -/
theorem ow_val {d : Nat} (y : SV) (hd : it.o.dst = some d) (hg : guardVal it.guard env = some true) (hN : Nat.blt d cf.N = true) (hlt : y.lt nh)
    (hrun : Bd env hp nh → ∀ a β, StA cf env β a → match it.tag with
      | .pure => ∀ w, (execOp a.eval it.o).run cf.P w = .ok (.value (y.den β)) w
      | .quiet => ∀ w, W β w → (execOp a.eval it.o).run cf.P w = .ok (.value (y.den β)) w
      | _ => False) (k : OW cf rest Q W σ ((d, y) :: env) hp A nh) : OW cf (it :: rest) Q W σ env hp A nh := by
  refine ⟨fun hb a β ha hex => ?_⟩
  have hN' : d < cf.N := by simpa [Nat.blt_eq] using hN
  have h' := k.run (hb.put hlt d) (a.put (some d) (y.den β)) β (ha.put hN' y) hex
  have hrun := hrun hb a β ha
  simp only [RunT]
  rw [if_pos (guardVal_ok ha hg), hd]
  cases htag : it.tag with
  | pure => rw [htag] at hrun; exact ⟨_, fun w => .inl (hrun w), h'⟩
  | quiet => rw [htag] at hrun; exact ⟨_, fun w hw => .inl (hrun w hw), h'⟩
  | keep => rw [htag] at hrun; exact hrun.elim
  | sink => rw [htag] at hrun; exact hrun.elim
  | free => rw [htag] at hrun; exact hrun.elim

/-- What heeds no world: reckoned. -/
theorem ow_pure {d : Nat} {T : List (Nat × TI)} (hT : TTok cf.P T) {x : SV} (h : stepOp T it.o.op env hp nh = some (.val x)) (hl : isLoad it.o.op = false) (hp' : isPure it.tag = true) (hd : it.o.dst = some d) (hg : guardVal it.guard env = some true) (hN : Nat.blt d cf.N = true)
    (k : OW cf rest Q W σ ((d, x) :: env) hp A nh) : OW cf (it :: rest) Q W σ env hp A nh := by
  refine ⟨fun hb a β ha hex => ?_⟩
  have hN' : d < cf.N := by simpa [Nat.blt_eq] using hN
  obtain ⟨hx, hrun⟩ := step_ok (o := it.o) hT ha hb h
  have h' := k.run (hb.put hx d) (a.put (some d) (x.den β)) β (ha.put hN' x) hex
  simp only [RunT]
  rw [if_pos (guardVal_ok ha hg), hd]
  cases htag : it.tag with
  | pure => exact ⟨_, fun w => .inl (hrun w (fun hc => by rw [hl] at hc; cases hc)), h'⟩
  | _ => rw [htag] at hp'; cases hp'

/-- A load, of what W knows too. -/
theorem ow_load {d : Nat} {T : List (Nat × TI)} (hT : TTok cf.P T) {x : SV} (hpW : HP) (AW : List AE) (hsub : subH hpW hp) (hW : ∀ β w, W β w → StW cf σ hpW AW β w) (h : stepOp T it.o.op env hpW nh = some (.val x)) (hq : (match it.tag with | .quiet => true | _ => false) = true) (hd : it.o.dst = some d) (hg : guardVal it.guard env = some true) (hN : Nat.blt d cf.N = true)
    (k : OW cf rest Q W σ ((d, x) :: env) hp A nh) : OW cf (it :: rest) Q W σ env hp A nh := by
  refine ⟨fun hb a β ha hex => ?_⟩
  have hN' : d < cf.N := by simpa [Nat.blt_eq] using hN
  obtain ⟨hx, hrun⟩ := step_ok (o := it.o) hT ha (hb.sub (fun _ _ h => h) hsub) h
  have h' := k.run (hb.put hx d) (a.put (some d) (x.den β)) β (ha.put hN' x) hex
  simp only [RunT]
  rw [if_pos (guardVal_ok ha hg), hd]
  cases htag : it.tag with
  | quiet => exact ⟨_, fun w hw => .inl (hrun w (fun _ => ⟨σ, AW, hW β w hw⟩)), h'⟩
  | _ => rw [htag] at hq; cases hq

/-- A store that leaves W. -/
theorem ow_put {T : List (Nat × TI)} (hT : TTok cf.P T) {i : Nat} {e : TypeId} {cs : List AT} (h : stepOp T it.o.op env hp nh = some (.put i e cs)) (hk : (match it.tag with | .keep => true | _ => false) = true) (hd : it.o.dst = none) (hg : guardVal it.guard env = some true)
    (hW : ∀ β w, StW cf σ ((i, .loc e, cs) :: hp) A β w → W β w) (k : OW cf rest Q W σ env ((i, .loc e, cs) :: hp) A nh) : OW cf (it :: rest) Q W σ env hp A nh := by
  refine ⟨fun hb a β ha hex => ?_⟩
  obtain ⟨hcs, ⟨cs0, hi⟩, hrun⟩ := step_ok (o := it.o) hT ha hb h
  simp only [RunT]
  rw [if_pos (guardVal_ok ha hg), hd]
  cases htag : it.tag with
  | keep =>
    refine fun w hw => ?_
    unfold Oper.wq
    rw [hrun σ A w hw]
    have hw' := hw.store (cs := cs) hi
    refine ⟨W β, _, hw', fun x hx => hW β x hx, fun _ h => h, ?_⟩
    rw [hd]
    exact k.run (hb.row (hb.hp i _ _ hi).1 hcs) a β ha ⟨_, hw'⟩
  | _ => rw [htag] at hk; cases hk

theorem subH_cons {h1 h2 : HP} {i : Nat} {x : HK × List AT} (hn : h1.get i = none) (hs : subH h1 h2) : subH h1 ((i, x.1, x.2) :: h2) := by
  intro j y hy
  rw [HP.get_cons]
  by_cases hij : i = j
  · subst hij; rw [hn] at hy; cases hy
  · rw [if_neg hij]; exact hs j y hy

/-- A call that leaves W, the arrays as told. -/
theorem ow_call {d : Nat} {f : FuncId} {ys : List SV} {Φ : Value → Snap → List AE → Prop} (is : List Nat) {A0 Ar : List AE} (hA : reA is A = A0 ++ Ar) (hn : nodupB is = true)
    (hc : callee env it.o.op = some (f, ys)) (hd : it.o.dst = some d) (hg : guardVal it.guard env = some true)
    (hN : Nat.blt d cf.N = true) (hk : (match it.tag with | .keep => true | _ => false) = true) (hcall : ∀ args w, (callFunc f args).run cf.P w = .ok (.enter f args) w) (hlt : LtAll ys)
    (hC : FnS cf.P f ys σ A0 Φ)
    (k : ∀ v σ' A', σ.le σ' → Φ v σ' A' → (∀ β w, StW cf σ' hp (A' ++ Ar) β w → W β w) ∧ ∃ y : SV, y.lt 0 ∧ y.den β0 = v ∧ OW cf rest Q W σ' ((d, y) :: env) hp (A' ++ Ar) nh) : OW cf (it :: rest) Q W σ env hp A nh := by
  refine ⟨fun hb a β ha hex => ?_⟩
  have hN' : d < cf.N := by simpa [Nat.blt_eq] using hN
  have den0 : ∀ {y : SV}, y.lt 0 → y.den β = y.den β0 := fun hy => SV.den_congr (n := 0) (fun i hi => by omega) hy
  have hargs : (ys.map (SV.den β)).toArray = (ys.map (SV.den β0)).toArray := by
    rw [List.map_congr_left fun y hy => den0 (hlt.of y hy)]
  simp only [RunT]
  rw [if_pos (guardVal_ok ha hg)]
  cases htag : it.tag with
  | keep =>
    intro w hw
    have hw2 : StW cf σ hp (A0 ++ Ar) β w := by rw [← hA]; exact hw.reA hn
    unfold Oper.wq
    rw [callee_ok ha hc hcall]
    simp only [Oper.uponIn]
    rw [hargs]
    refine ⟨fun h => (by cases h), CallsIn.mono (callsIn_FR.2 (hC w hw2.handIn)) fun e w' ⟨v, σ', he, h1, h2, h3, A', h4, h5⟩ => ?_⟩
    subst he
    obtain ⟨hW, y, hy, hyv, hk⟩ := k v σ' A' h2.le h4
    have hw' := hw2.through h5
    refine ⟨W β, _, hw', fun x hx => hW β x hx, fun _ h => h, ?_⟩
    have := hk.run (hb.put (SV.lt_mono (Nat.zero_le _) hy) d) (a.put (some d) (y.den β)) β (ha.put hN' y) ⟨_, hw'⟩
    rw [hd, ← hyv, ← den0 hy]
    exact this
  | _ => rw [htag] at hk; cases hk
end

theorem SV.lt_fn0 {n : Nat} {f : Fn} : (SV.a (.fn f [])).lt n := fun _ h => (by cases h)
theorem AT.lt_fn0 {n : Nat} {f : Fn} : (AT.fn f []).lt n := fun _ h => (by cases h)

theorem nj_nilarr {cf : Cf} {Q : Exit → Act → World → Prop} {σ : Snap} {env : Env} {hp : HP} {A : List AE} {nh : Nat} {ex : Exit} (e sz : Nat) (h : NJ cf ex Q σ env hp (A ++ [⟨none, 0, 0, e, sz, []⟩]) nh) : NJ cf ex Q σ env hp A nh :=
  ⟨fun hb a β w ha hw => h.run hb a β w ha ((StW.nilArr e sz).1 hw)⟩
end Go.Sy
