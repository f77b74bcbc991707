/- Arrays that are made; the less of two numbers. No program in sight. -/
import Derived.Test.YtadnijcgohflhaaDoorSyP
import Derived.Laws.MakeOwn
namespace Go.Sy

section
variable {cf : Cf} {σ : Snap} {hp : HP} {A : List AE} {β : Nat → Addr} {w : World}
theorem StW.undrew {o : Obj} (h : StW cf σ hp A β (w.drew.alloc o)) : StW cf σ hp A β (w.alloc o) :=
  ⟨h.os, h.tape, h.output, h.size, h.fr, h.sealed, h.le, h.grow, h.loc, h.ro, h.inj, h.arr, h.arrd, h.arrh⟩
end

theorem madeCells_one (v : Value) (n : Nat) : madeCells #[v] n = (List.replicate n v).toArray := by
  apply Array.ext
  · simp [madeCells]
  · intro i h1 h2
    simp [madeCells, Nat.mod_one]

section
variable {cf : Cf} {Q : Exit → Act → World → Prop} {σ : Snap} {env : Env} {hp : HP} {A : List AE} {nh : Nat} {it : Item} {rest : List Item}

/-- 'make([]T, n)', T one cell. -/
theorem oj_makeSlice {d : Nat} {t e n : Nat} {x y : Operand} {T : List (Nat × TI)} (hT : TTok cf.P T) {ti te : TI} {c0 : AT} (hop : it.o.op = .makeSlice t x y) (hd : it.o.dst = some d) (hg : guardVal it.guard env = some true) (hN : Nat.blt d cf.N = true)
    (htg : canSink it.tag = true) (hx : evalO env x = some (.a (.v (.int .i64 n)))) (hy : evalO env y = some (.a (.v (.int .i64 n)))) (ht : tget T t = some ti) (hkt : ti.kind = .slice e) (hte : tget T e = some te) (hsz : te.size = 1) (hze : te.zero = [c0])
    (_ : c0.lt 0) (hby : n * te.bytes ≤ 281474976710656) (hmax : n ≤ 1000000000)
    (hk : ∀ g, OJ cf rest Q σ ((d, .a (.v (.slice (some ⟨g, 0, none⟩) n n))) :: env) hp (A ++ [⟨some ⟨g, 0, none⟩, n, n, e, 1, List.replicate n c0.val⟩]) nh) : OJ cf (it :: rest) Q σ env hp A nh := by
  refine oj_step hd hg hN htg fun hb a β ha w hw => ?_
  obtain ⟨i1, d1, z1, hs1⟩ := tiOf_spec (hT _ _ ht)
  obtain ⟨i3, d3, z3, hs3⟩ := tiOf_spec (hT _ _ hte)
  have hut : cf.P.underlying t = some (.slice e) := by
    have h1 := hs1.kind
    rw [hkt] at h1
    have h2 := hs1.und
    cases d1 <;> first
      | (simp only [kindD, TK.slice.injEq] at h1; subst h1; exact h2)
      | (simp only [kindD] at h1; cases h1)
  have hz3 : z3.cells = #[c0.val] := by
    have := zero_den hs3 β0
    rw [← this, hze]
    rfl
  have hxe : a.eval x = .int .i64 n := evalO_eval ha hx
  have hye : a.eval y = .int .i64 n := evalO_eval ha hy
  have hrun := run_make (P := cf.P) w t e i3 z3 hut hs3.info hs3.zero .i64 .i64 n n (by omega) (Int.le_refl _) (by rw [hs3.bytes]; rw [← Int.natCast_mul, Nat.mul_comm]; omega) (by omega)
  rw [hs3.size, hsz, Int.toNat_natCast, Nat.mul_one, hz3, madeCells_one] at hrun
  have hm := ((StW.nilArr e 1).1 hw).moveArr (i := A.length) (E := ⟨none, 0, 0, e, 1, []⟩) (E' := ⟨some ⟨w.heap.size, 0, none⟩, n, n, e, 1, List.replicate n c0.val⟩) (cur' := (List.replicate n c0.val).toArray) (by simp) rfl (Nat.le_refl _) (by simp only [maxLen]; omega) (by simp) (by simp) (by simp)
  have hset : (A ++ [(⟨none, 0, 0, e, 1, []⟩ : AE)]).set A.length ⟨some ⟨w.heap.size, 0, none⟩, n, n, e, 1, List.replicate n c0.val⟩ = A ++ [⟨some ⟨w.heap.size, 0, none⟩, n, n, e, 1, List.replicate n c0.val⟩] := by
    rw [List.set_append_right _ _ (Nat.le_refl _), Nat.sub_self]
    rfl
  rw [hset] at hm
  refine ⟨.a (.v (.slice (some ⟨w.heap.size, 0, none⟩) n n)), σ, hp, _, nh, _, β, ?_, ha, hb.put (x := .a (.v (.slice (some ⟨w.heap.size, 0, none⟩) n n))) trivial d, hm.undrew, hk w.heap.size⟩
  simp only [execOp, hop, hxe, hye, Sem.run_bind, hrun, Result.andThen_ok, Sem.run_pure]
  rfl

/-- 'min' (true) or 'max' of two. -/
def mmOf : Op → Option (Bool × Operand × Operand)
  | .call c =>
    match c.callee, c.args.toList with
    | .builtin .min, [x, y] => some (true, x, y)
    | .builtin .max, [x, y] => some (false, x, y)
    | _, _ => none
  | _ => none

theorem mmOf_run {o : Oper} {b : Bool} {x y : Operand} (h : mmOf o.op = some (b, x, y)) {P : Program} {a : Act} {w : World} {k : IntKind} {m n : Int} (hx : a.eval x = .int k m) (hy : a.eval y = .int k n) :
    (execOp a.eval o).run P w = .ok (.value (.int k (if b then (if n < m then n else m) else (if n > m then n else m)))) w := by
  unfold mmOf at h
  split at h
  · rename_i c hop
    have e1 : ∀ l, c.args.toList = l → c.args = l.toArray := fun l hl => by
      cases hq : c.args with
      | mk l' => rw [hq] at hl; simp only at hl; rw [hl]
    split at h
    · rename_i x' y' hcal hargs
      injection h with h
      simp only [Prod.mk.injEq] at h
      obtain ⟨rfl, rfl, rfl⟩ := h
      simp only [execOp, hop, resolve, hcal, e1 _ hargs, invoke, builtin, Sem.run_bind, Sem.run_pure, Result.andThen_ok, List.map_toArray, List.map_cons, List.map_nil, Builtin.min_, hx, hy, List.foldlM_cons, List.foldlM_nil, Builtin.min2]
      rfl
    · rename_i x' y' hcal hargs
      injection h with h
      simp only [Prod.mk.injEq] at h
      obtain ⟨rfl, rfl, rfl⟩ := h
      simp only [execOp, hop, resolve, hcal, e1 _ hargs, invoke, builtin, Sem.run_bind, Sem.run_pure, Result.andThen_ok, List.map_toArray, List.map_cons, List.map_nil, Builtin.max_, hx, hy, List.foldlM_cons, List.foldlM_nil, Builtin.max2]
      rfl
    · cases h
  · cases h

theorem oj_mm {d : Nat} {b : Bool} {x y : Operand} {m n : Int} (hop : mmOf it.o.op = some (b, x, y)) (hd : it.o.dst = some d) (hg : guardVal it.guard env = some true) (hN : Nat.blt d cf.N = true) (htag : (match it.tag with | .pure => false | _ => true) = true)
    (hx : evalO env x = some (.a (.v (.int .i64 m)))) (hy : evalO env y = some (.a (.v (.int .i64 n))))
    (k : OJ cf rest Q σ ((d, .a (.v (.int .i64 (if b then (if n < m then n else m) else (if n > m then n else m))))) :: env) hp A nh) : OJ cf (it :: rest) Q σ env hp A nh :=
  oj_valW (.a (.v (.int .i64 (if b then (if n < m then n else m) else (if n > m then n else m))))) hd hg hN trivial htag
    (fun _ _ β ha _ _ => mmOf_run hop (evalO_eval (β := β) ha hx) (evalO_eval (β := β) ha hy)) k
end
end Go.Sy
