/- What the reckoning of a region's operations says is what the model does. No program in sight. -/
import Derived.Test.YtadnijcgohflhaaDoorSyB
namespace Go.Sy

/-! ### What a call's frame and world are known to be -/

/-- Memory that is sealed: nobody changes it any more. -/
abbrev Snap := Nat → Option Obj

/-- A call's own: the program; the world, and what was sealed, when it began; the blocks that were handed in to be changed; its slots; what it deferred; the round's record, if it is a round. -/
structure Cf where
  P : Program
  w0 : World
  σ0 : Snap
  M : Nat → Prop
  N : Nat
  ds : List Deferred
  rd : Option Nat

def Snap.cell (σ : Snap) (a : Addr) : Option Value :=
  match σ a.block with
  | some (.cells c _ _) => if a.spot.isSome then none else c[a.off]?
  | _ => none

/-- A slice that the call itself owns. -/
structure AE where
  ao : Option Addr
  n : Nat
  cap : Nat
  e : TypeId
  sz : Nat
  xs : List Value

def AE.blk (E : AE) : Option Nat := E.ao.map (·.block)

def Own (cf : Cf) (b : Nat) : Prop := cf.w0.heap.size ≤ b ∨ cf.M b

def ArrOk (cf : Cf) (σ : Snap) (w : World) (E : AE) : Prop :=
  E.xs.length = E.n * E.sz ∧
  ((E.ao = none ∧ E.n = 0 ∧ E.cap = 0) ∨
   ∃ g cur, E.ao = some ⟨g, 0, none⟩ ∧ w.heap[g]? = some (.cells cur E.e (0, 0)) ∧ E.n ≤ E.cap ∧ E.cap ≤ maxLen ∧ cur.size = E.cap * E.sz ∧
     cur.toList.take (E.n * E.sz) = E.xs ∧ σ g = none ∧ Own cf g)

structure StW (cf : Cf) (σ : Snap) (hp : HP) (A : List AE) (β : Nat → Addr) (w : World) : Prop where
  os : w.os = cf.w0.os
  tape : w.tape = cf.w0.tape
  output : w.output = cf.w0.output
  size : cf.w0.heap.size ≤ w.heap.size
  fr : ∀ b, b < cf.w0.heap.size → ¬ cf.M b → w.heap[b]? = cf.w0.heap[b]?
  sealed : ∀ b o, σ b = some o → w.heap[b]? = some o
  le : ∀ b o, cf.σ0 b = some o → σ b = some o
  grow : ∀ b, σ b ≠ none → cf.σ0 b ≠ none ∨ Own cf b
  loc : ∀ i e cs, hp.get i = some (.loc e, cs) → β i = ⟨(β i).block, 0, none⟩ ∧ w.heap[(β i).block]? = some (.cells (cs.map (AT.den β)).toArray e (0, 0)) ∧
    σ (β i).block = none ∧ Own cf (β i).block
  ro : ∀ i cs, hp.get i = some (.ro, cs) → ∀ j c, cs[j]? = some c → σ.cell ((β i).add j) = some (c.den β)
  inj : ∀ i j e e' cs cs', hp.get i = some (.loc e, cs) → hp.get j = some (.loc e', cs') → (β i).block = (β j).block → i = j
  arr : ∀ (i : Nat) E, A[i]? = some E → ArrOk cf σ w E
  arrd : ∀ (i j : Nat) E F, A[i]? = some E → A[j]? = some F → i ≠ j → ∀ g, E.blk = some g → F.blk ≠ some g
  arrh : ∀ (i : Nat) j E e cs, A[i]? = some E → hp.get j = some (.loc e, cs) → E.blk ≠ some (β j).block

structure StA (cf : Cf) (env : Env) (β : Nat → Addr) (a : Act) : Prop where
  size : a.tmps.size = cf.N
  defers : a.defers = cf.ds
  env : ∀ i x, env.get i = some x → a.tmps[i]? = some (x.den β)

structure Bd (env : Env) (hp : HP) (nh : Nat) : Prop where
  env : ∀ i x, env.get i = some x → x.lt nh
  hp : ∀ i k cs, hp.get i = some (k, cs) → i < nh ∧ ∀ c ∈ cs, c.lt nh

theorem Snap.cell_sealed {cf : Cf} {σ : Snap} {hp : HP} {A : List AE} {β : Nat → Addr} {w : World} (h : StW cf σ hp A β w) {a : Addr} {v : Value} (hv : σ.cell a = some v) : w.cell? a = some v := by
  unfold Snap.cell at hv
  unfold World.cell?
  split at hv
  · rename_i c e f hc
    rw [h.sealed _ _ hc]
    exact hv
  · cases hv

theorem add0 (g n : Nat) : (⟨g, 0, none⟩ : Addr).add n = ⟨g, n, none⟩ := by rw [Addr.add_lit, Nat.zero_add]

/-- A cell of a known row, whichever kind the row is of. -/
theorem StW.cell {cf : Cf} {σ : Snap} {hp : HP} {A : List AE} {β : Nat → Addr} {w : World} (h : StW cf σ hp A β w) {i : Nat} {k : HK} {cs : List AT} (hi : hp.get i = some (k, cs))
    {j : Nat} {c : AT} (hj : cs[j]? = some c) : w.cell? ((β i).add j) = some (c.den β) := by
  cases k with
  | loc e =>
    obtain ⟨h1, h2, _⟩ := h.loc i e cs hi
    rw [h1, add0, cell_of_row w _ j _ e (0, 0) h2]
    simp [hj]
  | ro => exact Snap.cell_sealed h (h.ro i cs hi j c hj)

theorem evalO_eval {cf : Cf} {env : Env} {β : Nat → Addr} {a : Act} (ha : StA cf env β a) {x : Operand} {y : SV} (h : evalO env x = some y) : a.eval x = y.den β := by
  cases x with
  | tmp t =>
    have := ha.env t y h
    simp only [Act.eval]
    rw [Array.getD_eq_getD_getElem?, this]
    rfl
  | const v => simp only [evalO, Option.some.injEq] at h; subst h; exact (svOf_den β v).symm
  | global g => simp only [evalO, Option.some.injEq] at h; subst h; rfl
  | func f => simp only [evalO, Option.some.injEq] at h; subst h; rfl

theorem evalO_lt {env : Env} {hp : HP} {nh : Nat} (hb : Bd env hp nh) {x : Operand} {y : SV} (h : evalO env x = some y) : y.lt nh := by
  cases x with
  | tmp t => exact hb.env t y h
  | const v => simp only [evalO, Option.some.injEq] at h; subst h; exact svOf_lt v nh
  | global g => simp only [evalO, Option.some.injEq] at h; subst h; trivial
  | func f => simp only [evalO, Option.some.injEq] at h; subst h; intro x hx; cases hx

/-! ### Small facts on lists -/

theorem nthAt_eq : ∀ (cs : List AT) (n : Nat), nthAt cs n = cs[n]?
  | [], n => by simp [nthAt]
  | _ :: _, 0 => rfl
  | _ :: cs, n + 1 => by simp [nthAt, nthAt_eq cs n]
theorem nthF_eq : ∀ (cs : List (Nat × Nat × Option Bool)) (n : Nat), nthF cs n = cs[n]?
  | [], n => by simp [nthF]
  | _ :: _, 0 => rfl
  | _ :: cs, n + 1 => by simp [nthF, nthF_eq cs n]
theorem nthS_eq : ∀ (cs : List S1) (n : Nat), nthS cs n = cs[n]?
  | [], n => by simp [nthS]
  | _ :: _, 0 => rfl
  | _ :: cs, n + 1 => by simp [nthS, nthS_eq cs n]

theorem takeAt_spec : ∀ (cs : List AT) (off n : Nat) (l : List AT), takeAt cs off n = some l → l = (cs.drop off).take n ∧ l.length = n
  | cs, 0, 0, l, h => by
    have : l = [] := by cases cs <;> simp [takeAt] at h <;> exact h
    subst this; simp
  | [], 0, _ + 1, _, h => by simp [takeAt] at h
  | c :: cs, 0, n + 1, l, h => by
    simp only [takeAt] at h
    cases h1 : takeAt cs 0 n with
    | none => rw [h1] at h; cases h
    | some m =>
      rw [h1] at h
      injection h with h
      subst h
      obtain ⟨h2, h3⟩ := takeAt_spec cs 0 n m h1
      simp only [List.drop_zero] at h2 ⊢
      exact ⟨by rw [List.take_succ_cons, ← h2], by simp [h3]⟩
  | [], _ + 1, n, l, h => by simp [takeAt] at h
  | c :: cs, off + 1, n, l, h => by
    simp only [takeAt] at h
    have := takeAt_spec cs off n l h
    simpa using this

theorem lay_spec : ∀ (cs : List AT) (off : Nat) (ns l : List AT), lay cs off ns = some l → off + ns.length ≤ cs.length ∧ l = cs.take off ++ ns ++ cs.drop (off + ns.length)
  | cs, 0, [], l, h => by
    have : cs = l := by cases cs <;> (simp only [lay] at h; injection h)
    subst this; simp
  | [], 0, _ :: _, l, h => by simp [lay] at h
  | c :: cs, 0, n :: ns, l, h => by
    simp only [lay] at h
    cases h1 : lay cs 0 ns with
    | none => rw [h1] at h; cases h
    | some m =>
      rw [h1] at h
      injection h with h
      subst h
      obtain ⟨h2, h3⟩ := lay_spec cs 0 ns m h1
      refine ⟨by simp at h2 ⊢; omega, ?_⟩
      simp at h3
      simp [h3]
  | [], _ + 1, _, l, h => by simp [lay] at h
  | c :: cs, off + 1, ns, l, h => by
    simp only [lay] at h
    cases h1 : lay cs off ns with
    | none => rw [h1] at h; cases h
    | some m =>
      rw [h1] at h
      injection h with h
      subst h
      obtain ⟨h2, h3⟩ := lay_spec cs off ns m h1
      refine ⟨by simp; omega, ?_⟩
      rw [h3]
      have : off + 1 + ns.length = (off + ns.length) + 1 := by omega
      simp [this]

theorem lay_lt {n : Nat} {cs ns l : List AT} {off : Nat} (h : lay cs off ns = some l) (h1 : ∀ c ∈ cs, c.lt n) (h2 : ∀ c ∈ ns, c.lt n) : ∀ c ∈ l, c.lt n := by
  obtain ⟨_, rfl⟩ := lay_spec cs off ns l h
  intro c hc
  simp only [List.mem_append] at hc
  rcases hc with (hc | hc) | hc
  · exact h1 c (List.mem_of_mem_take hc)
  · exact h2 c hc
  · exact h1 c (List.mem_of_mem_drop hc)

theorem takeAt_lt {n k : Nat} {cs l : List AT} {off : Nat} (h : takeAt cs off k = some l) (h1 : ∀ c ∈ cs, c.lt n) : ∀ c ∈ l, c.lt n := by
  obtain ⟨rfl, _⟩ := takeAt_spec cs off k l h
  exact fun c hc => h1 c (List.mem_of_mem_drop (List.mem_of_mem_take hc))

theorem cells_den {β : Nat → Addr} {x : SV} {cs : List AT} (h : x.cells = some cs) : (x.den β).cells = (cs.map (AT.den β)).toArray := by
  cases x with
  | a y =>
    simp only [SV.cells] at h
    cases hy : y.one with
    | false => rw [hy] at h; cases h
    | true =>
      rw [hy] at h
      injection h with h
      subst h
      have := AT.one_den β hy
      simp only [SV.den, List.map_cons, List.map_nil]
      unfold Value.cells
      split
      · rename_i c hc
        rw [hc] at this; cases this
      · rfl
  | agg l => simp only [SV.cells, Option.some.injEq] at h; subst h; rfl
  | tup vs => cases h

theorem cells_lt {n : Nat} {x : SV} {cs : List AT} (h : x.cells = some cs) (hx : x.lt n) : ∀ c ∈ cs, c.lt n := by
  cases x with
  | a y =>
    simp only [SV.cells] at h
    cases hy : y.one with
    | false => rw [hy] at h; cases h
    | true =>
      rw [hy] at h
      injection h with h
      subst h
      intro c hc
      cases hc with
      | head => exact hx
      | tail _ hc => cases hc
  | agg l => simp only [SV.cells, Option.some.injEq] at h; subst h; exact hx
  | tup vs => cases h

/-! ### The runs -/

section
variable {P : Program} {t : TypeId} {ti : TI} {i : TypeInfo} {d : TypeDesc} {z : Value}

theorem run_tinfo (h : P.info? t = some i) (w : World) : (typeInfo t).run P w = .ok i w := by
  simp [typeInfo, h]

theorem run_isAgg (h : P.underlying t = some d) (w : World) : (isAgg t).run P w = .ok (aggD d) w := by
  simp only [isAgg, Sem.run_bind, run_underlying h, Result.andThen_ok]
  cases d <;> rfl

theorem run_size (h : P.info? t = some i) (w : World) : (sizeOf t).run P w = .ok i.size w := by
  simp [sizeOf, run_tinfo h]

theorem run_zero (h : P.info? t = some i) (hz : i.zero = some z) (w : World) : (zeroValue t).run P w = .ok z w := by
  simp [zeroValue, run_tinfo h, hz]

theorem run_sizeB {n : Nat} (h : P.cellsOf t = n) (hd : P.underlying t = some d) (w : World) : (sizeOf t).run P w = .ok n w := by
  cases hi : P.info? t with
  | none => simp [Program.underlying, hi] at hd
  | some i => simp only [Program.cellsOf, hi, Option.map_some, Option.getD_some] at h; rw [run_size hi, h]
end

def upd (β : Nat → Addr) (nh : Nat) (w : World) : Nat → Addr := fun i => if i = nh then ⟨w.heap.size, 0, none⟩ else β i

theorem upd_old (β : Nat → Addr) (nh : Nat) (w : World) : ∀ i, i < nh → upd β nh w i = β i := fun i h => by
  unfold upd; rw [if_neg (by omega)]

/-- Does an operation of these heed the world? -/
def isLoad : Op → Bool
  | .load _ _ => true
  | _ => false

def EffOk (cf : Cf) (o : Oper) (a : Act) (hp : HP) (nh : Nat) (β : Nat → Addr) : Eff → Prop
  | .val x => x.lt nh ∧ ∀ w, (isLoad o.op = true → ∃ σ A, StW cf σ hp A β w) → (execOp a.eval o).run cf.P w = .ok (.value (x.den β)) w
  | .new e cs x => (∀ c ∈ cs, c.lt nh) ∧ (x = .p nh 0 ∨ ∃ n, x = .sl nh n) ∧
      ∀ w, (execOp a.eval o).run cf.P w = .ok (.value (x.den (upd β nh w))) (w.alloc (.cells (cs.map (AT.den β)).toArray e))
  | .put i e cs => (∀ c ∈ cs, c.lt nh) ∧ (∃ cs0, hp.get i = some (.loc e, cs0)) ∧
      ∀ σ A w, StW cf σ hp A β w → (execOp a.eval o).run cf.P w = .ok .skip (w.setRow (β i).block (cs.map (AT.den β)).toArray)

theorem map_some {α β : Type} {f : α → β} {o : Option α} {y : β} (h : o.map f = some y) : ∃ x, o = some x ∧ f x = y := by
  cases o with
  | none => cases h
  | some x => exact ⟨x, rfl, by injection h⟩

theorem bind_some {α β : Type} {f : α → Option β} {o : Option α} {y : β} (h : o.bind f = some y) : ∃ x, o = some x ∧ f x = some y := by
  cases o with
  | none => cases h
  | some x => exact ⟨x, rfl, h⟩

theorem cond_some {α : Type} {b : Bool} {o : Option α} {y : α} (h : (bif b then o else none) = some y) : b = true ∧ o = some y := by
  cases b with
  | false => cases h
  | true => exact ⟨rfl, h⟩

section
variable {cf : Cf} {T : List (Nat × TI)} {env : Env} {hp : HP} {nh : Nat} {β : Nat → Addr} {a : Act} {o : Oper}
variable (hT : TTok cf.P T) (ha : StA cf env β a) (hb : Bd env hp nh)
include ha hb

theorem ok_move {x : Operand} (ho : o.op = .move x) {eff : Eff} (h : (evalO env x).map Eff.val = some eff) : EffOk cf o a hp nh β eff := by
  obtain ⟨y, hy, rfl⟩ := map_some h
  exact ⟨evalO_lt hb hy, fun w _ => by simp only [execOp, ho, evalO_eval ha hy]; rfl⟩

theorem ok_assign {x : Operand} (ho : o.op = .assign x) {eff : Eff} (h : (evalO env x).map Eff.val = some eff) : EffOk cf o a hp nh β eff := by
  obtain ⟨y, hy, rfl⟩ := map_some h
  exact ⟨evalO_lt hb hy, fun w _ => by simp only [execOp, ho, evalO_eval ha hy]; rfl⟩

omit ha hb in
theorem pickB_ok {c : Bool} {x y z : AT} (h : pickB c x y = some z) (β : Nat → Addr) : z.den β = (if c then x.den β else y.den β) := by
  unfold pickB at h
  split at h <;> first
    | (cases h; done)
    | (injection h with h; subst h; cases c <;> simp [AT.den])

omit ha hb in
theorem pickB_lt {c : Bool} {x y z : AT} (h : pickB c x y = some z) (n : Nat) : z.lt n := by
  unfold pickB at h
  split at h <;> first
    | (cases h; done)
    | (injection h with h; subst h; trivial)

theorem ok_pick {c x y : Operand} (ho : o.op = .pick c x y) {eff : Eff} (h : stepOp T (.pick c x y) env hp nh = some eff) : EffOk cf o a hp nh β eff := by
  simp only [stepOp] at h
  split at h
  · rename_i hc
    obtain ⟨v, hv, rfl⟩ := map_some h
    exact ⟨evalO_lt hb hv, fun w _ => by simp [execOp, ho, evalO_eval ha hv, evalO_eval ha hc, SV.den, AT.den, asBool]⟩
  · rename_i hc
    obtain ⟨v, hv, rfl⟩ := map_some h
    exact ⟨evalO_lt hb hv, fun w _ => by simp [execOp, ho, evalO_eval ha hv, evalO_eval ha hc, SV.den, AT.den, asBool]⟩
  · rename_i q hc
    split at h
    · rename_i u v hu hv
      obtain ⟨z, hz, rfl⟩ := map_some h
      refine ⟨pickB_lt hz nh, fun w _ => ?_⟩
      have h1 : a.eval c = .bool q := evalO_eval ha hc
      have h2 : a.eval x = u.den β := evalO_eval ha hu
      have h3 : a.eval y = v.den β := evalO_eval ha hv
      have h4 : (SV.a z).den β = (if q then u.den β else v.den β) := pickB_ok hz β
      simp only [execOp, ho, h1, h2, h3, asBool, Sem.run_bind, Sem.run_pure, Result.andThen_ok, h4]
    · cases h
  · cases h

omit ha hb in
theorem zero_den {P : Program} {t : TypeId} {ti : TI} {i : TypeInfo} {d : TypeDesc} {z : Value} (h : TI.Of P t ti i d z) (β : Nat → Addr) : (ti.zero.map (AT.den β)).toArray = z.cells := by
  rw [← h.zcells]
  simp only [List.map_map]
  have : (AT.den β ∘ atOf) = id := by funext x; exact atOf_den β x
  rw [this]
  simp

omit ha hb in
theorem zero_lt {P : Program} {t : TypeId} {ti : TI} {i : TypeInfo} {d : TypeDesc} {z : Value} (h : TI.Of P t ti i d z) (n : Nat) : ∀ c ∈ ti.zero, c.lt n := by
  rw [← h.zcells]
  intro c hc
  obtain ⟨x, _, rfl⟩ := List.mem_map.1 hc
  exact atOf_lt x n

omit ha hb in
theorem upd_new (β : Nat → Addr) (nh : Nat) (w : World) : upd β nh w nh = ⟨w.heap.size, 0, none⟩ := by unfold upd; rw [if_pos rfl]

include hT in
omit ha hb in
theorem ok_alloc {t : TypeId} (ho : o.op = .alloc t) {eff : Eff} (h : stepOp T (.alloc t) env hp nh = some eff) : EffOk cf o a hp nh β eff := by
  simp only [stepOp] at h
  obtain ⟨ti, hti, rfl⟩ := map_some h
  obtain ⟨i, d, z, hs⟩ := tiOf_spec (hT _ _ hti)
  refine ⟨zero_lt hs nh, .inl rfl, fun w => ?_⟩
  simp only [execOp, ho, Instr.alloc, newVar, newRow, Sem.run_bind, run_zero hs.info hs.zero, Result.andThen_ok, run_newObj, Sem.run_pure, zero_den hs β, AT.den, upd_new, Addr.add_zero']
  rfl

theorem ok_box {t : TypeId} {x : Operand} (ho : o.op = .box t x) {eff : Eff} (h : stepOp T (.box t x) env hp nh = some eff) : EffOk cf o a hp nh β eff := by
  simp only [stepOp] at h
  obtain ⟨cs, hcs, rfl⟩ := map_some h
  obtain ⟨y, hy, hyc⟩ := bind_some hcs
  refine ⟨cells_lt hyc (evalO_lt hb hy), .inl rfl, fun w => ?_⟩
  simp only [execOp, ho, Instr.box, newVar, newRow, Sem.run_bind, evalO_eval ha hy, Result.andThen_ok, run_newObj, Sem.run_pure, cells_den (β := β) hyc, AT.den, upd_new, Addr.add_zero']
  rfl

omit ha in
theorem row_lt {i : Nat} {k : HK} {cs : List AT} (h : hp.get i = some (k, cs)) : ∀ c ∈ cs, c.lt nh := (hb.hp i k cs h).2

include hT in
theorem ok_load {t : TypeId} {x : Operand} (ho : o.op = .load t x) {eff : Eff} (h : stepOp T (.load t x) env hp nh = some eff) : EffOk cf o a hp nh β eff := by
  simp only [stepOp] at h
  split at h
  · rename_i i off ti hx hti
    obtain ⟨inf, d, z, hs⟩ := tiOf_spec (hT _ _ hti)
    split at h
    · rename_i k cs hrow
      cases hag : ti.agg with
      | true =>
        rw [hag] at h
        obtain ⟨l, hl, rfl⟩ := map_some h
        obtain ⟨hl1, hl2⟩ := takeAt_spec cs off ti.size l hl
        refine ⟨takeAt_lt hl (row_lt hb hrow), fun w hw => ?_⟩
        obtain ⟨σ, A, hw⟩ := hw (by rw [ho]; rfl)
        have hcells : ∀ j v, (l.map (AT.den β))[j]? = some v → w.cell? (((β i).add off).add j) = some v := by
          intro j v hv
          rw [List.getElem?_map] at hv
          obtain ⟨c, hc, rfl⟩ := map_some hv
          rw [Addr.add_add]
          refine hw.cell hrow ?_
          rw [hl1, List.getElem?_take] at hc
          split at hc
          · rw [List.getElem?_drop] at hc; exact hc
          · cases hc
        have hlen : (l.map (AT.den β)).length = inf.size := by simp [hl2, hs.size]
        have hrun := run_loadCells_list (P := cf.P) (w := w) ((β i).add off) (l.map (AT.den β)) hcells
        rw [hlen] at hrun
        simp only [execOp, ho, Instr.loadAt, evalO_eval ha hx, SV.den, AT.den, Instr.sureAddr, loadVar, Sem.run_bind, Sem.run_pure, Result.andThen_ok, run_isAgg hs.und, hs.agg, hag, if_true, run_size hs.info, hrun]
      | false =>
        rw [hag] at h
        obtain ⟨c, hc, rfl⟩ := map_some h
        rw [nthAt_eq] at hc
        refine ⟨row_lt hb hrow c (List.mem_of_getElem? hc), fun w hw => ?_⟩
        obtain ⟨σ, A, hw⟩ := hw (by rw [ho]; rfl)
        have hcell : w.cell? ((β i).add off) = some (c.den β) := hw.cell hrow hc
        simp only [execOp, ho, Instr.loadAt, evalO_eval ha hx, SV.den, AT.den, Instr.sureAddr, loadVar, Sem.run_bind, Sem.run_pure, Result.andThen_ok, run_isAgg hs.und, hs.agg, hag, if_false, Bool.false_eq_true, run_load, hcell]
    · cases h
  · cases h

include hT in
theorem ok_store {t : TypeId} {x y : Operand} (ho : o.op = .store t x y) {eff : Eff} (h : stepOp T (.store t x y) env hp nh = some eff) : EffOk cf o a hp nh β eff := by
  simp only [stepOp] at h
  split at h
  · rename_i i off ti ns hx hti hy
    obtain ⟨v, hv, hvc⟩ := bind_some hy
    obtain ⟨inf, d, z, hs⟩ := tiOf_spec (hT _ _ hti)
    split at h
    · rename_i e cs hrow
      obtain ⟨hcond, h⟩ := cond_some h
      obtain ⟨l, hl, rfl⟩ := map_some h
      simp only [Bool.and_eq_true] at hcond
      obtain ⟨hlen, hone⟩ := hcond
      have hlen := Nat.eq_of_beq_eq_true hlen
      obtain ⟨hl1, hl2⟩ := lay_spec cs off ns l hl
      refine ⟨lay_lt hl (row_lt hb hrow) (cells_lt hvc (evalO_lt hb hv)), ⟨cs, hrow⟩, fun σ A w hw => ?_⟩
      obtain ⟨h1, h2, _⟩ := hw.loc i e cs hrow
      have hcd := cells_den (β := β) hvc
      have hst := run_storeCells_at cf.P (β i).block off e (ns.map (AT.den β)) 0 (cs.map (AT.den β)).toArray w h2 (by simp; omega)
        (fun u hu => by obtain ⟨c, hc, rfl⟩ := List.mem_map.1 hu; exact AT.one_den β (List.all_eq_true.1 hone c hc))
      simp only [Nat.add_zero] at hst
      have haddr : (β i).add off = ⟨(β i).block, off, none⟩ := by rw [h1, add0]
      have hx' : a.eval x = .pointer (some ((β i).add off)) := evalO_eval ha hx
      have hv' : a.eval y = v.den β := evalO_eval ha hv
      have hsz : (List.map (AT.den β) ns).toArray.size = inf.size := by simp [hlen, hs.size]
      simp only [execOp, ho, Instr.storeAt, hx', hv', Instr.sureAddr, storeVar, Sem.run_bind, Sem.run_pure, Result.andThen_ok, hcd, run_size hs.info, hsz, ne_eq, not_true, if_false, haddr, Sem.run_ite, hst]
      rw [hl2]
      simp
    · cases h
  · cases h

theorem ok_nilCheck {x : Operand} (ho : o.op = .nilCheck x) {eff : Eff} (h : stepOp T (.nilCheck x) env hp nh = some eff) : EffOk cf o a hp nh β eff := by
  simp only [stepOp] at h
  split at h
  · rename_i i off hx
    injection h with h; subst h
    exact ⟨evalO_lt hb hx, fun w _ => by simp [execOp, ho, evalO_eval ha hx, SV.den, AT.den]⟩
  · rename_i p hx
    injection h with h; subst h
    exact ⟨evalO_lt hb hx, fun w _ => by simp [execOp, ho, evalO_eval ha hx, SV.den, AT.den]⟩
  · rename_i f c hx
    injection h with h; subst h
    exact ⟨evalO_lt hb hx, fun w _ => by simp [execOp, ho, evalO_eval ha hx, SV.den, AT.den]⟩
  · cases h

omit ha hb in
theorem cmpI_ok {P : Program} {op : BinOp} {t : TypeId} {x y : Operand} {k : IntKind} {m n : Int} {r : Bool} (h : cmpI op m n = some r) (w : World) :
    (do eqGuard op t x y (.int k m) (.int k n); binOp op t (.int k m) (.int k n) : Sem Value).run P w = .ok (.bool r) w := by
  unfold cmpI at h
  split at h <;> first
    | (cases h; done)
    | (injection h with h; subst h
       simp only [eqGuard_at_int, Sem.run_bind, Sem.run_pure, Result.andThen_ok, binOp, Op.intCmp, ne_eq, not_true, if_false]
       try (by_cases hmn : m = n <;> simp [hmn]))

omit ha hb in
theorem toList_inj {a b : ByteArray} : a.toList = b.toList ↔ a = b := by
  constructor
  · intro h
    have h' : a.data.toList = b.data.toList := by rw [← ByteArray.toList_eq, ← ByteArray.toList_eq]; exact h
    cases a; cases b
    simp only [ByteArray.mk.injEq]
    exact Array.toList_inj.1 h'
  · intro h; rw [h]

omit ha hb in
theorem cmpS_ok {P : Program} {op : BinOp} {t : TypeId} {x y : Operand} {m n : ByteArray} {r : Bool} (h : cmpS op m n = some r) (w : World) :
    (do eqGuard op t x y (.string m) (.string n); binOp op t (.string m) (.string n) : Sem Value).run P w = .ok (.bool r) w := by
  have he : (m.toList == n.toList) = decide (m = n) := by
    by_cases hmn : m = n
    · simp [hmn]
    · simp [hmn, mt toList_inj.1 hmn]
  unfold cmpS at h
  split at h <;> first
    | (cases h; done)
    | (injection h with h; subst h
       simp only [eqGuard_at_string, Sem.run_bind, Sem.run_pure, Result.andThen_ok, binOp_string_eql, binOp_string_neq, binOp_string_lss, he])

omit ha hb in
theorem cmpB_ok {P : Program} {op : BinOp} {t : TypeId} {x y : Operand} {m n : Bool} {r : Bool} (ht : P.underlying t = some .bool) (h : cmpB op m n = some r) (w : World) :
    (do eqGuard op t x y (.bool m) (.bool n); binOp op t (.bool m) (.bool n) : Sem Value).run P w = .ok (.bool r) w := by
  unfold cmpB at h
  split at h <;> first
    | (cases h; done)
    | (injection h with h; subst h
       simp only [eqGuard_at_bool, Sem.run_bind, Sem.run_pure, Result.andThen_ok, run_eql_bool w t m n ht, run_neq_bool w t m n ht]
       try rfl)

omit ha hb in
theorem boolOf_den {x : AT} {p : Bool} (h : boolOf x = some p) (β : Nat → Addr) : x.den β = .bool p := by
  unfold boolOf at h
  split at h <;> first | (cases h; done) | (injection h with h; subst h; rfl)

include hT in
omit hb in
theorem ok_binOp {op : BinOp} {t u : TypeId} {x y : Operand} (ho : o.op = .binOp op t x y u) {eff : Eff} (h : stepOp T (.binOp op t x y u) env hp nh = some eff) : EffOk cf o a hp nh β eff := by
  simp only [stepOp] at h
  split at h
  · rename_i p q hx hy
    split at h
    · rename_i bp bq hp' hq'
      split at h
      · rename_i ti hti
        obtain ⟨hk, h⟩ := cond_some h
        obtain ⟨r, hr, rfl⟩ := map_some h
        obtain ⟨inf, d, z, hs⟩ := tiOf_spec (hT _ _ hti)
        have hd : cf.P.underlying t = some .bool := by
          have h1 := hs.kind
          have h2 := hs.und
          cases d <;> first
            | exact h2
            | (simp only [kindD] at h1; rw [← h1] at hk; cases hk)
        refine ⟨trivial, fun w _ => ?_⟩
        simp only [execOp, ho, evalO_eval ha hx, evalO_eval ha hy, SV.den, boolOf_den hp' β, boolOf_den hq' β]
        rw [Sem.run_bind, cmpB_ok hd hr w]
        rfl
      · cases h
    · obtain ⟨r, hr, rfl⟩ := map_some h
      refine ⟨trivial, fun w _ => ?_⟩
      simp only [execOp, ho, evalO_eval ha hx, evalO_eval ha hy, SV.den]
      unfold binA at hr
      split at hr
      · obtain ⟨hk, hr'⟩ := cond_some hr
        have hk := kindEq_eq hk
        subst hk
        simp only [AT.den]
        rw [Sem.run_bind, cmpI_ok hr' w]
        rfl
      · simp only [AT.den]
        rw [Sem.run_bind, cmpS_ok hr w]
        rfl
      · cases hr
  · cases h

omit hb in
theorem ok_not {t : TypeId} {x : Operand} (ho : o.op = .unOp .not t x) {eff : Eff} (h : stepOp T (.unOp .not t x) env hp nh = some eff) : EffOk cf o a hp nh β eff := by
  simp only [stepOp] at h
  split at h <;> first
    | (cases h; done)
    | (rename_i hx
       injection h with h; subst h
       exact ⟨trivial, fun w _ => by simp [execOp, ho, evalO_eval ha hx, SV.den, AT.den, Op.unary]⟩)

omit ha hb in
theorem struct_of {P : Program} {t : TypeId} {ti : TI} {i : TypeInfo} {d : TypeDesc} {z : Value} (hs : TI.Of P t ti i d z) (hk : ti.kind = .struct) :
    ∃ fs, P.underlying t = some (.struct fs) ∧ ti.fields = fs.toList.map (fun f => (f.offset, P.cellsOf f.type, (P.underlying f.type).map aggD)) := by
  have h1 := hs.kind
  rw [hk] at h1
  have h2 := hs.und
  have h3 := hs.fields
  cases d <;> first
    | exact ⟨_, h2, h3.symm⟩
    | (simp only [kindD] at h1; cases h1)

include hT in
theorem ok_fieldAddr {t : TypeId} {x : Operand} {f : Nat} (ho : o.op = .fieldAddr t x f) {eff : Eff} (h : stepOp T (.fieldAddr t x f) env hp nh = some eff) : EffOk cf o a hp nh β eff := by
  have key : ∀ (ti : TI) (fo size : Nat) (ag : Option Bool) (ad : Addr) (w : World), tget T t = some ti → ti.kind = .struct → nthF ti.fields f = some (fo, size, ag) → Nat.beq size 0 = false →
      a.eval x = .pointer (some ad) → (execOp a.eval o).run cf.P w = .ok (.value (.pointer (some (ad.add fo)))) w := by
    intro ti fo size ag ad w hti hk hf hz hx
    obtain ⟨inf, d, z, hs⟩ := tiOf_spec (hT _ _ hti)
    obtain ⟨fs, hu, hfs⟩ := struct_of hs hk
    rw [nthF_eq, hfs, List.getElem?_map] at hf
    obtain ⟨fld, hfld, heq⟩ := map_some hf
    simp only [Prod.mk.injEq] at heq
    obtain ⟨rfl, rfl, _⟩ := heq
    have hfld' : fs[f]? = some fld := by simpa using hfld
    have hsz : (sizeOf fld.type).run cf.P w = .ok (cf.P.cellsOf fld.type) w := by
      cases hi : cf.P.info? fld.type with
      | none => simp [Program.cellsOf, hi] at hz
      | some i => rw [run_size hi]; simp [Program.cellsOf, hi]
    have hne : cf.P.cellsOf fld.type ≠ 0 := by intro e; rw [e] at hz; simp at hz
    simp only [execOp, ho, hx, Instr.fieldAt, Instr.sureAddr, fieldPlace, Sem.run_bind, run_underlying hu, Result.andThen_ok, hfld', Sem.run_pure, hsz, if_neg hne]
  simp only [stepOp] at h
  split at h
  · rename_i i off ti hx hti
    split at h
    · rename_i fo size ag hk hf
      cases hz : Nat.beq size 0 with
      | true => rw [hz] at h; cases h
      | false =>
        rw [hz] at h
        injection h with h; subst h
        refine ⟨by simpa [SV.lt, AT.lt] using evalO_lt hb hx, fun w _ => ?_⟩
        have := key ti fo size ag _ w hti hk hf hz (evalO_eval ha hx)
        rw [this, Addr.add_add]
        rfl
    · cases h
  · rename_i ad ti hx hti
    split at h
    · rename_i fo size ag hk hf
      cases hz : Nat.beq size 0 with
      | true => rw [hz] at h; cases h
      | false =>
        rw [hz] at h
        injection h with h; subst h
        exact ⟨trivial, fun w _ => key ti fo size ag _ w hti hk hf hz (evalO_eval ha hx)⟩
    · cases h
  · cases h

include hT in
theorem ok_field {t : TypeId} {x : Operand} {f : Nat} (ho : o.op = .field t x f) {eff : Eff} (h : stepOp T (.field t x f) env hp nh = some eff) : EffOk cf o a hp nh β eff := by
  simp only [stepOp] at h
  split at h
  · rename_i cs ti hx hti
    obtain ⟨inf, d, z, hs⟩ := tiOf_spec (hT _ _ hti)
    split at h
    · rename_i fo size ag hk hf
      obtain ⟨fs, hu, hfs⟩ := struct_of hs hk
      rw [nthF_eq, hfs, List.getElem?_map] at hf
      obtain ⟨fld, hfld, heq⟩ := map_some hf
      simp only [Prod.mk.injEq] at heq
      obtain ⟨rfl, rfl, hag0⟩ := heq
      have hfld' : fs[f]? = some fld := by simpa using hfld
      obtain ⟨fd, hfd, rfl⟩ := map_some hag0
      have hcs : ∀ c ∈ cs, c.lt nh := evalO_lt hb hx
      cases hag : aggD fd with
      | true =>
        rw [hag] at h
        obtain ⟨l, hl, rfl⟩ := map_some h
        obtain ⟨hl1, hl2⟩ := takeAt_spec cs _ _ l hl
        refine ⟨takeAt_lt hl hcs, fun w _ => ?_⟩
        simp only [execOp, ho, evalO_eval ha hx, SV.den, Instr.field, asAgg, part, Sem.run_bind, run_underlying hu, Result.andThen_ok, hfld', Sem.run_pure, run_isAgg hfd, hag, if_true, run_sizeB rfl hfd]
        rw [hl1]
        simp [List.extract_eq_take_drop, List.map_take, List.map_drop]
      | false =>
        rw [hag] at h
        obtain ⟨c, hc, rfl⟩ := map_some h
        rw [nthAt_eq] at hc
        refine ⟨hcs c (List.mem_of_getElem? hc), fun w _ => ?_⟩
        simp only [execOp, ho, evalO_eval ha hx, SV.den, Instr.field, asAgg, part, Sem.run_bind, run_underlying hu, Result.andThen_ok, hfld', Sem.run_pure, run_isAgg hfd, hag, if_false, Bool.false_eq_true, List.getElem?_toArray, List.getElem?_map, hc, Option.map_some]
    · cases h
  · cases h

theorem ok_extract {x : Operand} {f : Nat} (ho : o.op = .extract x f) {eff : Eff} (h : stepOp T (.extract x f) env hp nh = some eff) : EffOk cf o a hp nh β eff := by
  simp only [stepOp] at h
  split at h
  · rename_i vs hx
    obtain ⟨z, hz, rfl⟩ := map_some h
    rw [nthS_eq] at hz
    have hlt : ∀ x ∈ vs, x.lt nh := evalO_lt hb hx
    have hzl := hlt z (List.mem_of_getElem? hz)
    refine ⟨by cases z <;> exact hzl, fun w _ => ?_⟩
    have hden : z.sv.den β = z.den β := by cases z <;> rfl
    have hx' : a.eval x = .tuple (vs.map (S1.den β)).toArray := evalO_eval ha hx
    simp only [execOp, ho, hx', Instr.extract, List.getElem?_toArray, List.getElem?_map, hz, Option.map_some, hden]
    rfl
  · cases h

include hT in
omit hb in
theorem ok_makeInterface {t : TypeId} {x : Operand} (ho : o.op = .makeInterface t x) {eff : Eff} (h : stepOp T (.makeInterface t x) env hp nh = some eff) : EffOk cf o a hp nh β eff := by
  simp only [stepOp] at h
  split at h
  · rename_i y ti hx hti
    obtain ⟨inf, d, z, hs⟩ := tiOf_spec (hT _ _ hti)
    cases hk : isIfaceK ti.kind with
    | true => rw [hk] at h; cases h
    | false =>
      rw [hk] at h
      injection h with h; subst h
      refine ⟨trivial, fun w _ => ?_⟩
      simp only [execOp, ho, evalO_eval ha hx, SV.den, AT.den, Instr.makeInterface, Sem.run_bind, run_underlying hs.und, Result.andThen_ok]
      have h1 := hs.kind
      cases d <;> first
        | rfl
        | (simp only [kindD] at h1; rw [← h1] at hk; cases hk)
  · cases h

omit ha hb in
theorem ptsOf_ok (ha : StA cf env β a) (hb : Bd env hp nh) : ∀ (xs : List Operand) (l : List PT), ptsOf env xs = some l → (xs.map a.eval) = l.map (PT.den β) ∧ ∀ p ∈ l, p.lt nh
  | [], l, h => by simp only [ptsOf, Option.some.injEq] at h; subst h; simp
  | x :: xs, l, h => by
    simp only [ptsOf] at h
    split at h
    · rename_i i off hx
      obtain ⟨m, hm, rfl⟩ := map_some h
      obtain ⟨h1, h2⟩ := ptsOf_ok ha hb xs m hm
      refine ⟨by simp [evalO_eval ha hx, SV.den, AT.den, PT.den, h1], ?_⟩
      intro p hp'
      cases hp' with
      | head => exact evalO_lt hb hx
      | tail _ hp' => exact h2 p hp'
    · rename_i y hx
      obtain ⟨m, hm, rfl⟩ := map_some h
      obtain ⟨h1, h2⟩ := ptsOf_ok ha hb xs m hm
      refine ⟨by simp [evalO_eval ha hx, SV.den, AT.den, PT.den, h1], ?_⟩
      intro p hp'
      cases hp' with
      | head => trivial
      | tail _ hp' => exact h2 p hp'
    · cases h

theorem ok_makeFunc {f : Fn} {first captured : Array Operand} (ho : o.op = .makeFunc f first captured) {eff : Eff} (h : stepOp T (.makeFunc f first captured) env hp nh = some eff) : EffOk cf o a hp nh β eff := by
  simp only [stepOp] at h
  split at h
  · rename_i hf
    obtain ⟨l, hl, rfl⟩ := map_some h
    obtain ⟨h1, h2⟩ := ptsOf_ok ha hb _ _ hl
    refine ⟨h2, fun w _ => ?_⟩
    have hf' : first = #[] := by cases first; simpa using hf
    have hc : captured.map a.eval = (l.map (PT.den β)).toArray := by rw [← h1]; cases captured; simp
    simp only [execOp, ho, Instr.makeFunc, hf', hc, SV.den, AT.den, List.map_toArray, List.map_nil]
    rfl
  · cases h

include hT in
omit hb in
theorem ok_convert {s d : TypeId} {x : Operand} (ho : o.op = .convert s d x) {eff : Eff} (h : stepOp T (.convert s d x) env hp nh = some eff) : EffOk cf o a hp nh β eff := by
  simp only [stepOp] at h
  split at h
  · rename_i y ts ti hx hts hti
    obtain ⟨hk, h⟩ := cond_some h
    injection h with h; subst h
    simp only [Bool.and_eq_true] at hk
    obtain ⟨i1, d1, z1, hs1⟩ := tiOf_spec (hT _ _ hts)
    obtain ⟨i2, d2, z2, hs2⟩ := tiOf_spec (hT _ _ hti)
    have str : ∀ {t : TypeId} {ti : TI} {i : TypeInfo} {d : TypeDesc} {z : Value}, TI.Of cf.P t ti i d z → isStrK ti.kind = true → cf.P.underlying t = some .string := by
      intro t ti i d z hs hk
      have h1 := hs.kind
      have h2 := hs.und
      cases d <;> first
        | exact h2
        | (simp only [kindD] at h1; rw [← h1] at hk; cases hk)
    refine ⟨trivial, fun w _ => ?_⟩
    simp only [execOp, ho, evalO_eval ha hx, SV.den, AT.den, convert, Sem.run_bind, run_underlying (str hs1 hk.2), run_underlying (str hs2 hk.1), Result.andThen_ok]
    rfl
  · cases h

include hT in
omit hb in
theorem ok_len {c : Call} (ho : o.op = .call c) {eff : Eff} (h : stepOp T (.call c) env hp nh = some eff) : EffOk cf o a hp nh β eff := by
  simp only [stepOp] at h
  split at h
  · rename_i x t hcal hargs htys
    split at h
    · rename_i y ti hx hti
      obtain ⟨n, hn, rfl⟩ := map_some h
      obtain ⟨inf, d, z, hs⟩ := tiOf_spec (hT _ _ hti)
      refine ⟨trivial, fun w _ => ?_⟩
      have hc : c = { callee := .builtin .len, args := #[x], argTypes := #[t] } := by
        cases c with
        | mk cal ar ty =>
          simp only at hcal hargs htys
          subst hcal
          have e1 : ar = #[x] := by cases ar; simp only at hargs; rw [hargs]
          have e2 : ty = #[t] := by cases ty; simp only at htys; rw [htys]
          rw [e1, e2]
      have h1 := hs.kind
      simp only [execOp, ho, hc, resolve, invoke, builtin, Sem.run_bind, Sem.run_pure, Result.andThen_ok, List.map_toArray, List.map_cons, List.map_nil, evalO_eval ha hx, SV.den]
      unfold lenA at hn
      split at hn <;> first
        | (cases hn; done)
        | (injection hn with hn; subst hn
           rename_i hki
           rw [hki] at h1
           cases d <;> first
             | (simp [kindD] at h1; done)
             | simp [Builtin.len_, run_underlying hs.und, AT.den, goInt])
    · cases h
  · cases h

omit ha hb in
theorem fill_lay {place : Nat → Option (Nat × Nat)} {cells : Array Value} {i off size : Nat} {v : Value} {rest : List (Nat × Value)} (hp : place i = some (off, size))
    (hs : v.cells.size = size) (hfit : off + size ≤ cells.size) :
    Instr.fill place cells ((i, v) :: rest) = Instr.fill place (cells.toList.take off ++ v.cells.toList ++ cells.toList.drop (off + size)).toArray rest := by
  have key : ∀ (l : List Value) (k : Nat) (cs : Array Value), off + k + l.length ≤ cs.size →
      (l.zipIdx k).foldl (fun cs (p : Value × Nat) => cs.setIfInBounds (off + p.2) p.1) cs = (cs.toList.take (off + k) ++ l ++ cs.toList.drop (off + k + l.length)).toArray := by
    intro l
    induction l with
    | nil => intro k cs _; simp
    | cons x l ih =>
      intro k cs hk
      simp only [List.zipIdx_cons, List.foldl_cons]
      rw [ih (k + 1) _ (by simp at hk ⊢; omega)]
      congr 1
      have hlt : off + k < cs.toList.length := by simp at hk ⊢; omega
      simp only [Array.toList_setIfInBounds]
      apply List.ext_getElem?
      intro j
      simp only [List.length_cons] at hk
      simp only [List.getElem?_append, List.length_append, List.length_take, List.length_set, List.getElem?_take, List.getElem?_drop, List.getElem?_set, Array.length_toList, List.length_cons]
      have e1 : min (off + (k + 1)) cs.size = off + k + 1 := by omega
      have e2 : min (off + k) cs.size = off + k := by omega
      rw [e1, e2]
      rcases Nat.lt_trichotomy j (off + k) with hj | hj | hj
      · rw [if_pos (by omega), if_pos (by omega), if_pos (by omega), if_neg (by omega), if_pos (by omega), if_pos (by omega), if_pos (by omega)]
      · subst hj
        rw [if_pos (by omega), if_pos (by omega), if_pos (by omega), if_pos rfl, if_pos (by omega), if_pos (by omega), if_neg (by omega)]
        simp
      · by_cases hj2 : j < off + k + 1 + l.length
        · rw [if_pos (by omega), if_neg (by omega), if_pos (by omega), if_neg (by omega)]
          obtain ⟨m, rfl⟩ : ∃ m, j = off + k + 1 + m := ⟨j - (off + k + 1), by omega⟩
          have e3 : off + k + 1 + m - (off + k) = m + 1 := by omega
          rw [e3, List.getElem?_cons_succ]
          congr 1
          omega
        · rw [if_neg (by omega), if_neg (by omega)]
          rw [if_neg (by omega)]
          congr 1
          omega
  simp only [Instr.fill, hp]
  rw [if_neg (by simp [hs, hfit])]
  have := key v.cells.toList 0 cells (by simp [hs]; omega)
  simp only [Nat.add_zero] at this
  congr 1
  have e : v.cells.zipIdx.foldl (fun cs (x : Value × Nat) => cs.setIfInBounds (off + x.2) x.1) cells = (v.cells.toList.zipIdx).foldl (fun cs (p : Value × Nat) => cs.setIfInBounds (off + p.2) p.1) cells := by
    rw [← Array.foldl_toList, Array.toList_zipIdx]
  refine Eq.trans ?_ (this.trans ?_)
  · exact e
  · simp [hs]

omit ha hb in
theorem fillA_ok (ha : StA cf env β a) (hb : Bd env hp nh) (fields : List (Nat × Nat × Option Bool)) :
    ∀ (parts : List (Nat × Operand)) (cs l : List AT), (∀ c ∈ cs, c.lt nh) → fillA env fields cs parts = some l →
      Instr.fill (fun i => (fields[i]?).map fun f => (f.1, f.2.1)) (cs.map (AT.den β)).toArray (parts.map fun p => (p.1, a.eval p.2)) = some (l.map (AT.den β)).toArray ∧ ∀ c ∈ l, c.lt nh
  | [], cs, l, hcs, h => by simp only [fillA, Option.some.injEq] at h; subst h; exact ⟨by simp [Instr.fill], hcs⟩
  | (i, x) :: rest, cs, l, hcs, h => by
    simp only [fillA] at h
    split at h
    · rename_i off size ag ns hf hx
      obtain ⟨y, hy, hyc⟩ := bind_some hx
      obtain ⟨hlen, h⟩ := cond_some h
      have hlen := Nat.eq_of_beq_eq_true hlen
      obtain ⟨cs', hcs', h⟩ := bind_some h
      obtain ⟨hl1, hl2⟩ := lay_spec cs off ns cs' hcs'
      rw [nthF_eq] at hf
      have hcd := cells_den (β := β) hyc
      obtain ⟨h1, h2⟩ := fillA_ok ha hb fields rest cs' l (lay_lt hcs' hcs (cells_lt hyc (evalO_lt hb hy))) h
      refine ⟨?_, h2⟩
      simp only [List.map_cons, evalO_eval ha hy]
      rw [fill_lay (off := off) (size := size) (by simp [hf]) (by rw [hcd]; simp [hlen]) (by simp; omega)]
      rw [← h1]
      congr 2
      rw [hl2, hcd]
      simp [hlen]
    · cases h

end
end Go.Sy
