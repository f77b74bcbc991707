/- Contracts of functions; entering, returning, calls; single operations that the reckoning leaves. No program in sight. -/
import Derived.Test.YtadnijcgohflhaaDoorSyE
namespace Go.Sy

/-! ### Contracts -/

def Sealed (σ : Snap) (w : World) : Prop := ∀ b o, σ b = some o → w.heap[b]? = some o

/-- Of what was there, nothing has changed but for M's blocks. -/
structure Fr (M : Nat → Prop) (w w' : World) : Prop where
  os : w'.os = w.os
  tape : w'.tape = w.tape
  output : w'.output = w.output
  size : w.heap.size ≤ w'.heap.size
  block : ∀ b, b < w.heap.size → ¬ M b → w'.heap[b]? = w.heap[b]?

def Snap.le (σ σ' : Snap) : Prop := ∀ b o, σ b = some o → σ' b = some o

structure SGrow (M : Nat → Prop) (σ : Snap) (w : World) (σ' : Snap) : Prop where
  le : σ.le σ'
  new : ∀ b, σ' b ≠ none → σ b ≠ none ∨ w.heap.size ≤ b ∨ M b

theorem Snap.le_refl (σ : Snap) : σ.le σ := fun _ _ h => h
theorem Snap.le_trans {a b c : Snap} (h : a.le b) (h' : b.le c) : a.le c := fun x o hx => h' x o (h x o hx)
theorem Snap.le.cell {σ σ' : Snap} (h : σ.le σ') {a : Addr} {v : Value} (hv : σ.cell a = some v) : σ'.cell a = some v := by
  unfold Snap.cell at *
  split at hv
  · rename_i c e f hc
    rw [h _ _ hc]; exact hv
  · cases hv

def postR (w : World) (M : Nat → Prop) (σ : Snap) (Post : Value → World → Snap → Prop) : Ending → World → Prop :=
  fun e w' => ∃ v σ', e = .returned v ∧ Fr M w w' ∧ SGrow M σ w σ' ∧ Sealed σ' w' ∧ Post v w' σ'

/-- A function's contract at one call. -/
def CallC (P : Program) (f : FuncId) (args : Array Value) (w : World) (M : Nat → Prop) (σ : Snap) (Post : Value → World → Snap → Prop) : Prop :=
  Calls P f args w (postR w M σ Post)

/-- The contract of a function that changes nothing. -/
def PureC (P : Program) (f : FuncId) (args : Array Value) (σ : Snap) (Φ : Value → Snap → Prop) : Prop :=
  ∀ w, Sealed σ w → CallC P f args w (fun _ => False) σ (fun v _ σ' => Φ v σ')

theorem PureC.mono {P : Program} {f : FuncId} {args : Array Value} {σ : Snap} {Φ Ψ : Value → Snap → Prop} (h : PureC P f args σ Φ) (hi : ∀ v σ', σ.le σ' → Φ v σ' → Ψ v σ') : PureC P f args σ Ψ :=
  fun w hw => Calls.mono (h w hw) fun _ _ ⟨v, σ', h1, h2, h3, h4, h5⟩ => ⟨v, σ', h1, h2, h3, h4, hi v σ' h3.le h5⟩

/-! ### Entering -/

def argEnv : Nat → List SV → Env
  | _, [] => []
  | i, x :: xs => (i, x) :: argEnv (i + 1) xs

theorem argEnv_get : ∀ (xs : List SV) (k i : Nat) (x : SV), (argEnv k xs).get i = some x → k ≤ i ∧ xs[i - k]? = some x
  | [], _, _, _, h => by cases h
  | y :: xs, k, i, x, h => by
    simp only [argEnv, Env.get_cons] at h
    by_cases hk : k = i
    · subst hk; rw [if_pos rfl] at h; injection h with h; subst h; simp
    · rw [if_neg hk] at h
      obtain ⟨h1, h2⟩ := argEnv_get xs (k + 1) i x h
      refine ⟨by omega, ?_⟩
      have e : i - k = (i - (k + 1)) + 1 := by omega
      rw [e, List.getElem?_cons_succ]; exact h2

/-- A call begins. -/
theorem enter {P : Program} {f : FuncId} {fn : Func} {c : Code} {args : Array Value} {w : World} {M : Nat → Prop} {σ : Snap} {Post : Value → World → Snap → Prop}
    (hf : P.funcs[f]? = some fn) (hb : fn.body = some c) (svs : List SV) (β : Nat → Addr) (hp : HP) (A : List AE) (nh : Nat) (hargs : args = (svs.map (SV.den β)).toArray) (hN : svs.length ≤ fn.ntmps)
    (hlt : ∀ x ∈ svs, x.lt nh) (hhp : ∀ i k cs, hp.get i = some (k, cs) → i < nh ∧ ∀ c ∈ cs, c.lt nh)
    (hw : StW ⟨P, w, σ, M, fn.ntmps, [], none⟩ σ hp A β w)
    (h : CJ ⟨P, w, σ, M, fn.ntmps, [], none⟩ c (bodyPost P fn (postR w M σ Post)) σ (argEnv 0 svs) hp A nh) : CallC P f args w M σ Post := by
  refine calls_of_wp hf hb (wpR_none (h.run ⟨fun i x hx => ?_, hhp⟩ _ β w ⟨?_, rfl, fun i x hx => ?_⟩ hw))
  · obtain ⟨_, h2⟩ := argEnv_get svs 0 i x hx
    exact hlt x (List.mem_of_getElem? h2)
  · subst hargs
    simp only [Array.size_append, List.size_toArray, List.length_map, Array.size_replicate]
    omega
  · obtain ⟨_, h2⟩ := argEnv_get svs 0 i x hx
    simp only [Nat.sub_zero] at h2
    subst hargs
    rw [Array.getElem?_append_left (by simp; exact (List.getElem?_eq_some_iff.1 h2).1)]
    simp [h2]

theorem StW.start {P : Program} {w : World} {σ : Snap} {M : Nat → Prop} {N : Nat} (hs : Sealed σ w) (β : Nat → Addr) : StW ⟨P, w, σ, M, N, [], none⟩ σ [] [] β w where
  os := rfl
  tape := rfl
  output := rfl
  size := Nat.le_refl _
  fr := fun _ _ _ => rfl
  sealed := hs
  le := fun _ _ h => h
  grow := fun _ h => .inl h
  loc := fun _ _ _ h => by cases h
  ro := fun _ _ h => by cases h
  inj := fun _ _ _ _ _ _ h => by cases h
  arr := fun _ _ h => by cases h
  arrd := fun _ _ _ _ h => by cases h
  arrh := fun _ _ _ _ _ h => by cases h

def β0 : Nat → Addr := fun _ => ⟨0, 0, none⟩

/-- A function that changes nothing begins. -/
theorem enter_pure {P : Program} {f : FuncId} {fn : Func} {c : Code} {args : Array Value} {σ : Snap} {Φ : Value → Snap → Prop}
    (hf : P.funcs[f]? = some fn) (hb : fn.body = some c) (svs : List SV) (hargs : args = (svs.map (SV.den β0)).toArray) (hN : svs.length ≤ fn.ntmps) (hlt : ∀ x ∈ svs, x.lt 0)
    (h : ∀ w, CJ ⟨P, w, σ, fun _ => False, fn.ntmps, [], none⟩ c (bodyPost P fn (postR w (fun _ => False) σ (fun v _ σ' => Φ v σ'))) σ (argEnv 0 svs) [] [] 0) : PureC P f args σ Φ :=
  fun w hs => enter hf hb svs β0 [] [] 0 hargs hN hlt (fun _ _ _ h => by cases h) (StW.start hs β0) (h w)

/-! ### Returning -/

def resS1 (T : List (Nat × TI)) (env : Env) (hp : HP) : ResultVar → Option S1
  | .tmp t =>
    match env.get t with
    | some (.a x) => some (.a x)
    | some (.agg cs) => some (.agg cs)
    | _ => none
  | .cell t ty =>
    match env.get t, tget T ty with
    | some (.a (.p h off)), some ti =>
      match hp.get h with
      | some (_, cs) => bif ti.agg then (takeAt cs off ti.size).map .agg else (nthAt cs off).map .a
      | none => none
    | _, _ => none

def resL (T : List (Nat × TI)) (env : Env) (hp : HP) : List ResultVar → Option (List S1)
  | [] => some []
  | r :: rs =>
    match resS1 T env hp r, resL T env hp rs with
    | some x, some xs => some (x :: xs)
    | _, _ => none

def resSV (l : List S1) : SV :=
  match l with
  | [x] => x.sv
  | _ => .tup l

def resOne (tmps : Array Value) : ResultVar → Sem Value
  | .tmp t => pure (tmps.getD t undef)
  | .cell p t => do loadVar t (← asAddr (tmps.getD p undef))

theorem results_eq (fn : Func) (tmps : Array Value) : results fn tmps = (do let vs ← fn.results.mapM (resOne tmps); pure (if h : vs.size = 1 then vs[0] else .tuple vs)) := by
  unfold results
  congr

section
variable {cf : Cf} {T : List (Nat × TI)} {env : Env} {hp : HP} {nh : Nat} {β : Nat → Addr} {a : Act} {σ : Snap} {A : List AE} {w : World}

theorem resS1_ok (hT : TTok cf.P T) (ha : StA cf env β a) (hb : Bd env hp nh) (hw : StW cf σ hp A β w) {r : ResultVar} {x : S1} (h : resS1 T env hp r = some x) :
    (resOne a.tmps r).run cf.P w = .ok (x.den β) w := by
  cases r with
  | tmp t =>
    simp only [resOne]
    simp only [resS1] at h
    split at h
    · rename_i y hy
      injection h with h; subst h
      have := ha.env t _ hy
      simp only [Sem.run_pure, Array.getD_eq_getD_getElem?, this]
      rfl
    · rename_i y hy
      injection h with h; subst h
      have := ha.env t _ hy
      simp only [Sem.run_pure, Array.getD_eq_getD_getElem?, this]
      rfl
    · cases h
  | cell p t =>
    -- as a load does
    simp only [resOne]
    have key : ∀ (eff : Eff), stepOp T (.load t (.tmp p)) env hp nh = some eff → EffOk cf ⟨none, .load t (.tmp p), t, "", #[], none⟩ a hp nh β eff := fun eff he => ok_load hT ha hb rfl he
    simp only [resS1] at h
    split at h
    · rename_i i off ti hp' hti
      split at h
      · rename_i k cs hrow
        have hev : evalO env (.tmp p) = some (.a (.p i off)) := hp'
        have haddr : a.eval (.tmp p) = .pointer (some ((β i).add off)) := evalO_eval ha hev
        have fin : ∀ y : SV, y.den β = x.den β → stepOp T (.load t (.tmp p)) env hp nh = some (.val y) → ((do loadVar t (← asAddr (a.tmps.getD p undef))) : Sem Value).run cf.P w = .ok (x.den β) w := by
          intro y hy hst
          have := (key _ hst).2 w (fun _ => ⟨σ, A, hw⟩)
          simp only [execOp, Instr.loadAt, haddr, Instr.sureAddr, Sem.run_bind, Sem.run_pure, Result.andThen_ok] at this
          have haddr' : a.tmps.getD p undef = .pointer (some ((β i).add off)) := haddr
          simp only [haddr', asAddr, Sem.run_bind, Sem.run_pure, Result.andThen_ok]
          generalize (loadVar t ((β i).add off)).run cf.P w = r at this
          cases r with
          | ok v w' =>
            simp only [Result.andThen_ok, Result.ok.injEq, Next.value.injEq] at this
            obtain ⟨rfl, rfl⟩ := this
            rw [hy]
          | halt e w' => simp only [Result.andThen_halt] at this; cases this
        cases hag : ti.agg with
        | true =>
          rw [hag] at h
          obtain ⟨l, hl, rfl⟩ := map_some h
          refine fin (.agg l) rfl ?_
          simp only [stepOp, hev, hti, hrow, hag, cond_true, hl, Option.map_some]
        | false =>
          rw [hag] at h
          obtain ⟨c, hc, rfl⟩ := map_some h
          refine fin (.a c) rfl ?_
          simp only [stepOp, hev, hti, hrow, hag, cond_false, hc, Option.map_some]
      · cases h
    · cases h

theorem resL_ok (hT : TTok cf.P T) (ha : StA cf env β a) (hb : Bd env hp nh) (hw : StW cf σ hp A β w) : ∀ (rs : List ResultVar) (xs : List S1), resL T env hp rs = some xs →
    (rs.mapM (resOne a.tmps)).run cf.P w = .ok (xs.map (S1.den β)) w
  | [], xs, h => by simp only [resL, Option.some.injEq] at h; subst h; rfl
  | r :: rs, xs, h => by
    simp only [resL] at h
    split at h
    · rename_i y ys hy hys
      injection h with h; subst h
      have h1 := resS1_ok hT ha hb hw hy
      have h2 := resL_ok hT ha hb hw rs ys hys
      simp only [List.mapM_cons, Sem.run_bind, Sem.run_pure, h1, Result.andThen_ok, h2, List.map_cons]
    · cases h

theorem results_ok (hT : TTok cf.P T) (ha : StA cf env β a) (hb : Bd env hp nh) (hw : StW cf σ hp A β w) {fn : Func} {xs : List S1} (h : resL T env hp fn.results.toList = some xs) :
    (results fn a.tmps).run cf.P w = .ok ((resSV xs).den β) w := by
  have h1 := resL_ok hT ha hb hw _ _ h
  rw [results_eq, Array.mapM_eq_mapM_toList, Sem.run_bind, Sem.run_map, h1]
  simp only [Result.andThen_ok, Sem.run_pure]
  congr 1
  match xs with
  | [] => rfl
  | [x] => simp [resSV]; cases x <;> rfl
  | x :: y :: xs => simp [resSV, SV.den]
end

theorem SGrow.of {cf : Cf} {σ : Snap} {hp : HP} {A : List AE} {β : Nat → Addr} {w : World} (h : StW cf σ hp A β w) : SGrow cf.M cf.σ0 cf.w0 σ :=
  ⟨h.le, fun b hb => h.grow b hb⟩

theorem Fr.of {cf : Cf} {σ : Snap} {hp : HP} {A : List AE} {β : Nat → Addr} {w : World} (h : StW cf σ hp A β w) : Fr cf.M cf.w0 w :=
  ⟨h.os, h.tape, h.output, h.size, h.fr⟩

/-- The function returns. -/
theorem nj_ret {P : Program} {w0 : World} {σ0 : Snap} {M : Nat → Prop} {N : Nat} {T : List (Nat × TI)} (hT : TTok P T) {fn : Func} {Post : Value → World → Snap → Prop} {σ : Snap} {env : Env} {hp : HP} {A : List AE} {nh : Nat}
    {xs : List S1} (hr : resL T env hp fn.results.toList = some xs) (h : ∀ β w, Bd env hp nh → StW ⟨P, w0, σ0, M, N, [], none⟩ σ hp A β w → Post ((resSV xs).den β) w σ) :
    NJ ⟨P, w0, σ0, M, N, [], none⟩ .ret (bodyPost P fn (postR w0 M σ0 Post)) σ env hp A nh := ⟨fun hb _ β w ha hw =>
  ⟨ha.defers, _, results_ok (cf := ⟨P, w0, σ0, M, N, [], none⟩) hT ha hb hw hr, _, σ, rfl, Fr.of hw, SGrow.of hw, hw.sealed, h β w hb hw⟩⟩
theorem nj_end {P : Program} {w0 : World} {σ0 : Snap} {M : Nat → Prop} {N : Nat} {T : List (Nat × TI)} (hT : TTok P T) {fn : Func} {Post : Value → World → Snap → Prop} {σ : Snap} {env : Env} {hp : HP} {A : List AE} {nh : Nat}
    {xs : List S1} (hr : resL T env hp fn.results.toList = some xs) (h : ∀ β w, Bd env hp nh → StW ⟨P, w0, σ0, M, N, [], none⟩ σ hp A β w → Post ((resSV xs).den β) w σ) :
    NJ ⟨P, w0, σ0, M, N, [], none⟩ .normal (bodyPost P fn (postR w0 M σ0 Post)) σ env hp A nh := ⟨fun hb _ β w ha hw =>
  ⟨ha.defers, _, results_ok (cf := ⟨P, w0, σ0, M, N, [], none⟩) hT ha hb hw hr, _, σ, rfl, Fr.of hw, SGrow.of hw, hw.sealed, h β w hb hw⟩⟩

/-! ### Single operations -/

section
variable {cf : Cf} {Q : Exit → Act → World → Prop} {σ : Snap} {env : Env} {hp : HP} {A : List AE} {nh : Nat} {it : Item} {rest : List Item}

/-- The reckoning, as far as it goes. -/
theorem oj_run {T : List (Nat × TI)} (hT : TTok cf.P T) {l l' : List Item} {env' : Env} {hp' : HP} {nh' : Nat} (h : exec T cf.N l env hp nh = .mk l' env' hp' nh')
    (k : OJ cf l' Q σ env' hp' A nh') : OJ cf l Q σ env hp A nh := by
  refine exec_ok hT l env hp nh ?_
  rw [h]; exact k

/-- A Bool in a slot: both ways. -/
theorem oj_split {l : List Item} (t : Nat) {b : Bool} (h : env.get t = some (.a (.b b))) (ht : b = true → OJ cf l Q σ ((t, .a .tt) :: env) hp A nh) (hf : b = false → OJ cf l Q σ ((t, .a .ff) :: env) hp A nh) :
    OJ cf l Q σ env hp A nh := by
  have key : ∀ c : AT, (∀ β, c.den β = .bool b) → c.lt nh → OJ cf l Q σ ((t, .a c) :: env) hp A nh → OJ cf l Q σ env hp A nh := by
    intro c hc hl hk
    refine ⟨fun hb a β ha hex => ?_⟩
    refine hk.run (hb.put (x := .a c) hl t) a β ⟨ha.size, ha.defers, fun i x hx => ?_⟩ hex
    rw [Env.get_cons] at hx
    by_cases hi : t = i
    · rw [if_pos hi] at hx
      injection hx with hx
      subst hx
      subst hi
      have := ha.env t _ h
      simp only [SV.den, AT.den] at this
      simp only [SV.den, hc β, this]
    · rw [if_neg hi] at hx; exact ha.env i x hx
  cases b with
  | true => exact key .tt (fun _ => rfl) trivial (ht rfl)
  | false => exact key .ff (fun _ => rfl) trivial (hf rfl)

/-- A value is what it is known to be. -/
theorem oj_set {l : List Item} (t : Nat) {x : SV} (y : SV) (h : env.get t = some x) (hy : y.lt nh) (hxy : ∀ β, x.den β = y.den β) (k : OJ cf l Q σ ((t, y) :: env) hp A nh) : OJ cf l Q σ env hp A nh := by
  refine ⟨fun hb a β ha hex => ?_⟩
  refine k.run (hb.put hy t) a β ⟨ha.size, ha.defers, fun i z hz => ?_⟩ hex
  rw [Env.get_cons] at hz
  by_cases hi : t = i
  · rw [if_pos hi] at hz
    injection hz with hz
    subst hz; subst hi
    rw [← hxy β]; exact ha.env t _ h
  · rw [if_neg hi] at hz; exact ha.env i z hz

/-- An operation that yields one value, whatever the world is. -/
theorem oj_val {d : Nat} (y : SV) (hd : it.o.dst = some d) (hg : guardVal it.guard env = some true) (hN : Nat.blt d cf.N = true) (hlt : y.lt nh)
    (hrun : Bd env hp nh → ∀ a β, StA cf env β a → ∀ w, (execOp a.eval it.o).run cf.P w = .ok (.value (y.den β)) w) (k : OJ cf rest Q σ ((d, y) :: env) hp A nh) : OJ cf (it :: rest) Q σ env hp A nh := by
  refine ⟨fun hb a β ha hex => ?_⟩
  have hN' : d < cf.N := by simpa [Nat.blt_eq] using hN
  have h' := k.run (hb.put hlt d) (a.put (some d) (y.den β)) β (ha.put hN' y) hex
  have hrun := hrun hb a β ha
  simp only [RunT]
  rw [if_pos (guardVal_ok ha hg), hd]
  cases it.tag with
  | pure => exact ⟨_, fun w => .inl (hrun w), h'⟩
  | quiet => exact ⟨_, fun w _ => .inl (hrun w), h'⟩
  | keep => exact fun w hw => wp_of_quiet (.inl (hrun w)) ⟨_, _, hw, fun _ h => h, fun _ h => h, by rw [hd]; exact h'⟩
  | sink => exact fun w hw => wp_of_quiet (.inl (hrun w)) ⟨_, _, hw, fun _ h => h, by rw [hd]; exact h'⟩
  | free => exact fun w hw => wp_of_quiet (.inl (hrun w)) ⟨_, _, hw, fun _ h => h, by rw [hd]; exact h'⟩

/-- A sum, a difference, a product: its wrapped value told. -/
theorem oj_arith {d : Nat} {op : BinOp} {x y : Operand} {xt yt : TypeId} {k : IntKind} {m n : Int} (r : Int) (hop : it.o.op = .binOp op xt x y yt) (hd : it.o.dst = some d) (hg : guardVal it.guard env = some true)
    (hN : Nat.blt d cf.N = true) (hx : evalO env x = some (.a (.v (.int k m)))) (hy : evalO env y = some (.a (.v (.int k n))))
    (hr : ∀ w P, (binOp op xt (.int k m) (.int k n)).run P w = .ok (.int k r) w)
    (hk : OJ cf rest Q σ ((d, .a (.v (.int k r))) :: env) hp A nh) : OJ cf (it :: rest) Q σ env hp A nh := by
  refine oj_val (.a (.v (.int k r))) hd hg hN trivial (fun _ a β ha w => ?_) hk
  have h1 : a.eval x = .int k m := evalO_eval ha hx
  have h2 : a.eval y = .int k n := evalO_eval ha hy
  simp only [execOp, hop, h1, h2, eqGuard_at_int, Sem.run_bind, Sem.run_pure, Result.andThen_ok, hr]
  rfl

theorem run_add {xt : TypeId} {k : IntKind} {m n r : Int} (h : k.wrap (m + n) = r) (w : World) (P : Program) : (binOp .add xt (.int k m) (.int k n)).run P w = .ok (.int k r) w := by
  simp only [binOp, Op.intArith, ne_eq, not_true, if_false, h, Sem.run_pure]
theorem run_sub {xt : TypeId} {k : IntKind} {m n r : Int} (h : k.wrap (m - n) = r) (w : World) (P : Program) : (binOp .sub xt (.int k m) (.int k n)).run P w = .ok (.int k r) w := by
  simp only [binOp, Op.intArith, ne_eq, not_true, if_false, h, Sem.run_pure]
theorem run_mul {xt : TypeId} {k : IntKind} {m n r : Int} (h : k.wrap (m * n) = r) (w : World) (P : Program) : (binOp .mul xt (.int k m) (.int k n)).run P w = .ok (.int k r) w := by
  simp only [binOp, Op.intArith, ne_eq, not_true, if_false, h, Sem.run_pure]
theorem run_rem {xt : TypeId} {k : IntKind} {m n r : Int} (hn : n ≠ 0) (h : m.tmod n = r) (w : World) (P : Program) : (binOp .rem xt (.int k m) (.int k n)).run P w = .ok (.int k r) w := by
  simp only [binOp, Op.intDiv, ne_eq, not_true, if_false, if_neg hn, h, Sem.run_pure]
theorem run_quo {xt : TypeId} {k : IntKind} {m n r : Int} (hn : n ≠ 0) (h : k.wrap (m.tdiv n) = r) (w : World) (P : Program) : (binOp .quo xt (.int k m) (.int k n)).run P w = .ok (.int k r) w := by
  simp only [binOp, Op.intDiv, ne_eq, not_true, if_false, if_neg hn, h, Sem.run_pure]

/-- int's sum that fits. -/
theorem oj_add {d : Nat} {x y : Operand} {xt yt : TypeId} {m n : Int} (hop : it.o.op = .binOp .add xt x y yt) (hd : it.o.dst = some d) (hg : guardVal it.guard env = some true) (hN : Nat.blt d cf.N = true)
    (hx : evalO env x = some (.a (.v (.int .i64 m)))) (hy : evalO env y = some (.a (.v (.int .i64 n)))) (hb : -9223372036854775808 ≤ m + n ∧ m + n ≤ 9223372036854775807)
    (hk : OJ cf rest Q σ ((d, .a (.v (.int .i64 (m + n)))) :: env) hp A nh) : OJ cf (it :: rest) Q σ env hp A nh :=
  oj_arith _ hop hd hg hN hx hy (run_add (IntWalk.i64_in _ hb)) hk
theorem oj_minus {d : Nat} {x y : Operand} {xt yt : TypeId} {m n : Int} (hop : it.o.op = .binOp .sub xt x y yt) (hd : it.o.dst = some d) (hg : guardVal it.guard env = some true) (hN : Nat.blt d cf.N = true)
    (hx : evalO env x = some (.a (.v (.int .i64 m)))) (hy : evalO env y = some (.a (.v (.int .i64 n)))) (hb : -9223372036854775808 ≤ m - n ∧ m - n ≤ 9223372036854775807)
    (hk : OJ cf rest Q σ ((d, .a (.v (.int .i64 (m - n)))) :: env) hp A nh) : OJ cf (it :: rest) Q σ env hp A nh :=
  oj_arith _ hop hd hg hN hx hy (run_sub (IntWalk.i64_in _ hb)) hk
theorem oj_mul {d : Nat} {x y : Operand} {xt yt : TypeId} {m n : Int} (hop : it.o.op = .binOp .mul xt x y yt) (hd : it.o.dst = some d) (hg : guardVal it.guard env = some true) (hN : Nat.blt d cf.N = true)
    (hx : evalO env x = some (.a (.v (.int .i64 m)))) (hy : evalO env y = some (.a (.v (.int .i64 n)))) (hb : -9223372036854775808 ≤ m * n ∧ m * n ≤ 9223372036854775807)
    (hk : OJ cf rest Q σ ((d, .a (.v (.int .i64 (m * n)))) :: env) hp A nh) : OJ cf (it :: rest) Q σ env hp A nh :=
  oj_arith _ hop hd hg hN hx hy (run_mul (IntWalk.i64_in _ hb)) hk

/-- A conversion between integers: its value told. -/
theorem oj_conv {d : Nat} {x : Operand} {s t : TypeId} {T : List (Nat × TI)} (hT : TTok cf.P T) {ts ti : TI} {j k : IntKind} {n : Int} (r : Int) (hop : it.o.op = .convert s t x) (hd : it.o.dst = some d)
    (hg : guardVal it.guard env = some true) (hN : Nat.blt d cf.N = true) (hx : evalO env x = some (.a (.v (.int j n)))) (hs : tget T s = some ts) (ht : tget T t = some ti) (hkd : ti.kind = .int k) (hr : k.wrap n = r)
    (hk : OJ cf rest Q σ ((d, .a (.v (.int k r))) :: env) hp A nh) : OJ cf (it :: rest) Q σ env hp A nh := by
  refine oj_val (.a (.v (.int k r))) hd hg hN trivial (fun _ a β ha w => ?_) hk
  obtain ⟨i1, d1, z1, hs1⟩ := tiOf_spec (hT _ _ hs)
  obtain ⟨i2, d2, z2, hs2⟩ := tiOf_spec (hT _ _ ht)
  have h1 := hs2.kind
  have hu : cf.P.underlying t = some (.int k) := by
    rw [hkd] at h1
    have h2 := hs2.und
    cases d2 <;> first
      | (simp only [kindD, TK.int.injEq] at h1; subst h1; exact h2)
      | (simp only [kindD] at h1; cases h1)
  have h2 : a.eval x = .int j n := evalO_eval ha hx
  simp only [execOp, hop, h2, convert, Sem.run_bind, run_underlying hs1.und, run_underlying hu, Result.andThen_ok, Conv.intToInt, Sem.run_pure, hr]
  rfl

/-- A byte of a string. -/
theorem oj_index_str {d : Nat} {x i : Operand} {t : TypeId} {T : List (Nat × TI)} (hT : TTok cf.P T) {ti : TI} {s : ByteArray} {k : IntKind} {m : Int} {u : UInt8} (hop : it.o.op = .index t x i) (hd : it.o.dst = some d)
    (hg : guardVal it.guard env = some true) (hN : Nat.blt d cf.N = true) (hx : evalO env x = some (.a (.v (.string s)))) (hi : evalO env i = some (.a (.v (.int k m)))) (ht : tget T t = some ti) (hkd : ti.kind = .str)
    (h0 : 0 ≤ m) (hu : s.data.toList[m.toNat]? = some u)
    (hk : OJ cf rest Q σ ((d, .a (.v (.int .u8 u.toNat))) :: env) hp A nh) : OJ cf (it :: rest) Q σ env hp A nh := by
  refine oj_val (.a (.v (.int .u8 u.toNat))) hd hg hN trivial (fun _ a β ha w => ?_) hk
  obtain ⟨i2, d2, z2, hs2⟩ := tiOf_spec (hT _ _ ht)
  have h1 := hs2.kind
  have hun : cf.P.underlying t = some .string := by
    rw [hkd] at h1
    have h2 := hs2.und
    cases d2 <;> first
      | exact h2
      | (simp only [kindD] at h1; cases h1)
  have h2 : a.eval x = .string s := evalO_eval ha hx
  have h3 : a.eval i = .int k m := evalO_eval ha hi
  have hget : s[m.toNat]? = some u := by
    have hlt : m.toNat < s.size := by
      have := (List.getElem?_eq_some_iff.1 hu).1
      rw [Array.length_toList] at this
      exact this
    rw [ByteArray.getElem?_lt' s _ hlt]
    have := (List.getElem?_eq_some_iff.1 hu).2
    rw [← this]
    rfl
  simp only [execOp, hop, h2, h3, Instr.index, asIntOf, Sem.run_bind, Sem.run_pure, Result.andThen_ok, run_underlying hun, h0, if_true, hget]
  rfl

/-- The address of a slice's element. -/
theorem oj_indexAddr {d : Nat} {x i : Operand} {t : TypeId} {T : List (Nat × TI)} (hT : TTok cf.P T) {ti te : TI} {e : Nat} {ad : Addr} {n c : Nat} {k : IntKind} {m : Int} (hop : it.o.op = .indexAddr t x i) (hd : it.o.dst = some d)
    (hg : guardVal it.guard env = some true) (hN : Nat.blt d cf.N = true) (hx : evalO env x = some (.a (.v (.slice (some ad) n c)))) (hi : evalO env i = some (.a (.v (.int k m)))) (ht : tget T t = some ti) (hkd : ti.kind = .slice e)
    (hte : tget T e = some te) (h0 : 0 ≤ m ∧ m < n)
    (hk : OJ cf rest Q σ ((d, .a (.v (.pointer (some (ad.add (m.toNat * te.size)))))) :: env) hp A nh) : OJ cf (it :: rest) Q σ env hp A nh := by
  refine oj_val (.a (.v (.pointer (some (ad.add (m.toNat * te.size)))))) hd hg hN trivial (fun _ a β ha w => ?_) hk
  obtain ⟨i2, d2, z2, hs2⟩ := tiOf_spec (hT _ _ ht)
  obtain ⟨i3, d3, z3, hs3⟩ := tiOf_spec (hT _ _ hte)
  have h1 := hs2.kind
  have hun : cf.P.underlying t = some (.slice e) := by
    rw [hkd] at h1
    have h2 := hs2.und
    cases d2 <;> first
      | (simp only [kindD, TK.slice.injEq] at h1; subst h1; exact h2)
      | (simp only [kindD] at h1; cases h1)
  have h2 : a.eval x = .slice (some ad) n c := evalO_eval ha hx
  have h3 : a.eval i = .int k m := evalO_eval ha hi
  simp only [execOp, hop, h2, h3, Instr.indexAt, asIntOf, Sem.run_bind, Sem.run_pure, Result.andThen_ok, run_underlying hun, h0, and_self, if_true, run_size hs3.info, hs3.size]
  rfl

/-- What stands behind a pointer, sealed, is a known row. -/
theorem oj_row {l : List Item} (t : Nat) {ad : Addr} (cs : List AT) (h : env.get t = some (.a (.v (.pointer (some ad))))) (hlt : ∀ c ∈ cs, c.lt 0) (hσ : ∀ (j : Nat) c, cs[j]? = some c → σ.cell (ad.add j) = some (c.den β0))
    (k : OJ cf l Q σ ((t, .a (.p nh 0)) :: env) ((nh, .ro, cs) :: hp) A (nh + 1)) : OJ cf l Q σ env hp A nh := by
  refine ⟨fun hb a β ha hex => ?_⟩
  let β' : Nat → Addr := fun i => if i = nh then ad else β i
  have hβ : ∀ i, i < nh → β' i = β i := fun i hi => by simp only [β']; rw [if_neg (by omega)]
  have hnew : β' nh = ad := by simp only [β', if_true]
  have ha' : StA cf ((t, .a (.p nh 0)) :: env) β' a := by
    refine ⟨ha.size, ha.defers, fun i z hz => ?_⟩
    rw [Env.get_cons] at hz
    by_cases hi : t = i
    · rw [if_pos hi] at hz
      injection hz with hz
      subst hz; subst hi
      have := ha.env t _ h
      simp only [SV.den, AT.den] at this
      simp only [SV.den, AT.den, hnew, Addr.add_zero']
      exact this
    · rw [if_neg hi] at hz; rw [SV.den_congr hβ (hb.env i z hz)]; exact ha.env i z hz
  have hb' : Bd ((t, .a (.p nh 0)) :: env) ((nh, .ro, cs) :: hp) (nh + 1) :=
    ((hb.mono (Nat.le_succ nh)).put (x := .a (.p nh 0)) (Nat.lt_succ_self nh) t).row (Nat.lt_succ_self nh) fun c hc => AT.lt_mono (Nat.zero_le _) (hlt c hc)
  have hget : ∀ {i : Nat} {q : HK} {r : List AT}, HP.get ((nh, HK.ro, cs) :: hp) i = some (q, r) → (i = nh ∧ q = .ro ∧ r = cs) ∨ (i < nh ∧ hp.get i = some (q, r)) := by
    intro i q r hi
    rw [HP.get_cons] at hi
    by_cases hin : nh = i
    · rw [if_pos hin] at hi
      injection hi with hi
      simp only [Prod.mk.injEq] at hi
      exact .inl ⟨hin.symm, hi.1.symm, hi.2.symm⟩
    · rw [if_neg hin] at hi
      exact .inr ⟨(hb.hp i _ _ hi).1, hi⟩
  have hget' : ∀ {i q r}, hp.get i = some (q, r) → HP.get ((nh, HK.ro, cs) :: hp) i = some (q, r) := by
    intro i q r hi
    rw [HP.get_cons, if_neg (fun hc => by have := (hb.hp i q r hi).1; omega)]; exact hi
  have hS : (fun w => StW cf σ hp A β w) = fun w => StW cf σ ((nh, .ro, cs) :: hp) A β' w := by
    funext w
    apply propext
    constructor
    · intro hw
      refine ⟨hw.os, hw.tape, hw.output, hw.size, hw.fr, hw.sealed, hw.le, hw.grow, fun i e' l hi => ?_, fun i l hi j c hc => ?_, fun i j e1 e2 l1 l2 hi hj hij => ?_, hw.arr, hw.arrd, fun i j E e' l hE hj => ?_⟩
      · rcases hget hi with ⟨_, hk, _⟩ | ⟨hl, hi'⟩
        · cases hk
        · rw [hβ i hl, AT.denL_congr hβ (hb.hp i _ l hi').2]; exact hw.loc i e' l hi'
      · rcases hget hi with ⟨rfl, _, rfl⟩ | ⟨hl, hi'⟩
        · rw [hnew, hσ j c hc]
          congr 1
          exact AT.den_congr (n := 0) (fun i hi => by omega) (hlt c (List.mem_of_getElem? hc))
        · rw [hβ i hl, AT.den_congr hβ ((hb.hp i _ l hi').2 c (List.mem_of_getElem? hc))]; exact hw.ro i l hi' j c hc
      · rcases hget hi with ⟨_, hk, _⟩ | ⟨hl, hi'⟩
        · cases hk
        · rcases hget hj with ⟨_, hk, _⟩ | ⟨hl', hj'⟩
          · cases hk
          · rw [hβ i hl, hβ j hl'] at hij; exact hw.inj i j _ _ _ _ hi' hj' hij
      · rcases hget hj with ⟨_, hk, _⟩ | ⟨hl', hj'⟩
        · cases hk
        · rw [hβ j hl']; exact hw.arrh i j E e' l hE hj'
    · intro hw
      refine ⟨hw.os, hw.tape, hw.output, hw.size, hw.fr, hw.sealed, hw.le, hw.grow, fun i e' l hi => ?_, fun i l hi j c hc => ?_, fun i j e1 e2 l1 l2 hi hj hij => ?_, hw.arr, hw.arrd, fun i j E e' l hE hj => ?_⟩
      · have := hw.loc i e' l (hget' hi)
        rw [hβ i (hb.hp i _ _ hi).1, AT.denL_congr hβ (hb.hp i _ l hi).2] at this; exact this
      · have := hw.ro i l (hget' hi) j c hc
        rw [hβ i (hb.hp i _ _ hi).1, AT.den_congr hβ ((hb.hp i _ l hi).2 c (List.mem_of_getElem? hc))] at this; exact this
      · refine hw.inj i j _ _ _ _ (hget' hi) (hget' hj) ?_
        rw [hβ i (hb.hp i _ _ hi).1, hβ j (hb.hp j _ _ hj).1]; exact hij
      · have := hw.arrh i j E e' l hE (hget' hj)
        rw [hβ j (hb.hp j _ _ hj).1] at this; exact this
  rw [hS]
  refine k.run hb' a β' ha' ?_
  obtain ⟨w, hw⟩ := hex
  exact ⟨w, (congrFun hS w) ▸ hw⟩

/-! ### Calls -/

def evalL (env : Env) : List Operand → Option (List SV)
  | [] => some []
  | x :: xs =>
    match evalO env x, evalL env xs with
    | some y, some ys => some (y :: ys)
    | _, _ => none

theorem evalL_ok {β : Nat → Addr} {a : Act} (ha : StA cf env β a) : ∀ (xs : List Operand) (ys : List SV), evalL env xs = some ys → xs.map a.eval = ys.map (SV.den β)
  | [], ys, h => by simp only [evalL, Option.some.injEq] at h; subst h; rfl
  | x :: xs, ys, h => by
    simp only [evalL] at h
    split at h
    · rename_i y ys' hy hys
      injection h with h; subst h
      simp only [List.map_cons, evalO_eval ha hy, evalL_ok ha xs ys' hys]
    · cases h

theorem evalL_lt (hb : Bd env hp nh) : ∀ (xs : List Operand) (ys : List SV), evalL env xs = some ys → ∀ y ∈ ys, y.lt nh
  | [], ys, h => by simp only [evalL, Option.some.injEq] at h; subst h; intro y hy; cases hy
  | x :: xs, ys, h => by
    simp only [evalL] at h
    split at h
    · rename_i y ys' hy hys
      injection h with h; subst h
      intro z hz
      cases hz with
      | head => exact evalO_lt hb hy
      | tail _ hz => exact evalL_lt hb xs ys' hys z hz
    · cases h

def ptSV : PT → SV
  | .loc i o => .a (.p i o)
  | .val x => svOf x

theorem ptSV_den (β : Nat → Addr) (p : PT) : (ptSV p).den β = p.den β := by
  cases p with
  | loc i o => rfl
  | val x => exact svOf_den β x

/-- Which function is called, with which arguments. -/
def callee (env : Env) (op : Op) : Option (FuncId × List SV) :=
  match op with
  | .call c =>
    match c.callee with
    | .value f =>
      match evalO env f, evalL env c.args.toList with
      | some (.a (.fn (.func g) cap)), some ys => some (g, ys ++ cap.map ptSV)
      | _, _ => none
    | _ => none
  | _ => none

theorem callee_ok {β : Nat → Addr} {a : Act} {w : World} (ha : StA cf env β a) {o : Oper} {f : FuncId} {ys : List SV} (h : callee env o.op = some (f, ys))
    (hcall : ∀ args w, (callFunc f args).run cf.P w = .ok (.enter f args) w) : (execOp a.eval o).run cf.P w = .ok (.enter f (ys.map (SV.den β)).toArray) w := by
  unfold callee at h
  split at h
  · rename_i c hop
    split at h
    · rename_i fo hcal
      split at h
      · rename_i g cap zs hf hz
        injection h with h
        simp only [Prod.mk.injEq] at h
        obtain ⟨rfl, rfl⟩ := h
        have h1 : a.eval fo = .func (.func g) #[] (cap.map (PT.den β)).toArray := evalO_eval ha hf
        have h2 : c.args.map a.eval = (zs.map (SV.den β)).toArray := by
          have := evalL_ok ha _ _ hz
          rw [← this, ← Array.toList_map]
        have h3 : (zs.map (SV.den β)).toArray ++ (cap.map (PT.den β)).toArray = ((zs ++ cap.map ptSV).map (SV.den β)).toArray := by
          have : cap.map (SV.den β ∘ ptSV) = cap.map (PT.den β) := List.map_congr_left fun p _ => ptSV_den β p
          rw [List.map_append, List.map_map, this]
          exact List.append_toArray _ _
        simp only [execOp, hop, resolve, hcal, h1, h2, Deferred.ofValue, Sem.run_bind, Sem.run_pure, Result.andThen_ok, invoke, Array.empty_append, h3, hcall]
      · cases h
    · cases h
  · cases h

/-- What is kept through a call that changes nothing. -/
theorem StW.after {β : Nat → Addr} {w w' : World} {σ' : Snap} (h : StW cf σ hp A β w) (hfr : Fr (fun _ => False) w w') (hg : SGrow (fun _ => False) σ w σ') (hs : Sealed σ' w') : StW cf σ' hp A β w' := by
  have hold : ∀ b, b < w.heap.size → w'.heap[b]? = w.heap[b]? := fun b hb => hfr.block b hb (fun h => h)
  have hσ : ∀ b, b < w.heap.size → σ b = none → σ' b = none := by
    intro b hb hn
    cases hb' : σ' b with
    | none => rfl
    | some o =>
      rcases hg.new b (by rw [hb']; simp) with h1 | h1 | h1
      · exact absurd hn h1
      · omega
      · exact h1.elim
  refine ⟨hfr.os.trans h.os, hfr.tape.trans h.tape, hfr.output.trans h.output, Nat.le_trans h.size hfr.size, fun b hb hm => ?_, hs, fun b o hb => hg.le b o (h.le b o hb), fun b hb => ?_, fun i e cs hi => ?_, fun i cs hi j c hc => hg.le.cell (h.ro i cs hi j c hc), h.inj, fun i E hE => ?_, h.arrd, h.arrh⟩
  · rw [hold b (Nat.lt_of_lt_of_le hb h.size)]; exact h.fr b hb hm
  · rcases hg.new b hb with h1 | h1 | h1
    · exact h.grow b h1
    · exact .inr (.inl (Nat.le_trans h.size h1))
    · exact h1.elim
  · obtain ⟨h1, h2, h3, h4⟩ := h.loc i e cs hi
    have hlt := (Array.getElem?_eq_some_iff.1 h2).1
    exact ⟨h1, by rw [hold _ hlt]; exact h2, hσ _ hlt h3, h4⟩
  · have hE' := h.arr i E hE
    refine ⟨hE'.1, ?_⟩
    rcases hE'.2 with h2 | ⟨g, cur, h3, h4, h5, h6, h7, h8, h9, h10⟩
    · exact .inl h2
    · have hlt := (Array.getElem?_eq_some_iff.1 h4).1
      exact .inr ⟨g, cur, h3, by rw [hold g hlt]; exact h4, h5, h6, h7, h8, hσ g hlt h9, h10⟩

def notQuiet : Tag → Bool
  | .quiet | .pure => false
  | _ => true

/-- A call of a function that changes nothing. What it hands back may lie in new memory, which is sealed. -/
theorem oj_call {d : Nat} {f : FuncId} {ys : List SV} {Φ : Value → Snap → Prop} (hc : callee env it.o.op = some (f, ys)) (hd : it.o.dst = some d) (hg : guardVal it.guard env = some true)
    (hN : Nat.blt d cf.N = true) (hq : notQuiet it.tag = true) (hcall : ∀ args w, (callFunc f args).run cf.P w = .ok (.enter f args) w) (hlt : ∀ y ∈ ys, y.lt 0)
    (hC : PureC cf.P f (ys.map (SV.den β0)).toArray σ Φ)
    (k : ∀ v σ', σ.le σ' → Φ v σ' → ∃ y : SV, y.lt 0 ∧ y.den β0 = v ∧ OJ cf rest Q σ' ((d, y) :: env) hp A nh) : OJ cf (it :: rest) Q σ env hp A nh := by
  refine ⟨fun hb a β ha hex => ?_⟩
  have hN' : d < cf.N := by simpa [Nat.blt_eq] using hN
  have den0 : ∀ {y : SV}, y.lt 0 → y.den β = y.den β0 := fun hy => SV.den_congr (n := 0) (fun i hi => by omega) hy
  have hargs : (ys.map (SV.den β)).toArray = (ys.map (SV.den β0)).toArray := by
    rw [List.map_congr_left fun y hy => den0 (hlt y hy)]
  have hrun : ∀ w, StW cf σ hp A β w → ∀ (K : Act → World → Prop) (Q' : Exit → Act → World → Prop),
      (∀ v w' σ', σ.le σ' → Φ v σ' → StW cf σ' hp A β w' → (∀ x, StW cf σ' hp A β x → StW cf σ hp A β x) → K (a.put it.o.dst v) w') → it.o.wq cf.P a w K Q' := by
    intro w hw K Q' hK
    unfold Oper.wq
    rw [callee_ok ha hc hcall]
    simp only [Oper.uponIn]
    rw [hargs]
    refine ⟨fun h => (by cases h), CallsIn.mono (callsIn_FR.2 (hC w hw.sealed)) fun e w' ⟨v, σ', he, h1, h2, h3, h4⟩ => ?_⟩
    subst he
    refine hK v w' σ' h2.le h4 (hw.after h1 h2 h3) fun x hx => ?_
    have hσ : ∀ {b}, σ' b = none → σ b = none := by
      intro b hb
      cases hb' : σ b with
      | none => rfl
      | some o => rw [h2.le b o hb'] at hb; cases hb
    refine ⟨hx.os, hx.tape, hx.output, hx.size, hx.fr, fun b o hb => hx.sealed b o (h2.le b o hb), hw.le, hw.grow, fun i e cs hi => ?_, hw.ro, hx.inj, fun i E hE => ?_, hx.arrd, hx.arrh⟩
    · obtain ⟨q1, q2, q3, q4⟩ := hx.loc i e cs hi
      exact ⟨q1, q2, hσ q3, q4⟩
    · obtain ⟨q1, q2⟩ := hx.arr i E hE
      refine ⟨q1, q2.imp id ?_⟩
      rintro ⟨g, cur, h3, h4, h5, h6, h7, h8, h9, h10⟩
      exact ⟨g, cur, h3, h4, h5, h6, h7, h8, hσ h9, h10⟩
  have cont : ∀ v σ', σ.le σ' → Φ v σ' → (∃ w, StW cf σ' hp A β w) → RunT cf.P Q rest (fun w => StW cf σ' hp A β w) (fun w => StW cf σ' hp A β w) (a.put it.o.dst v) := by
    intro v σ' hle hΦ hex'
    obtain ⟨y, hy, hyv, hk⟩ := k v σ' hle hΦ
    have := hk.run (hb.put (SV.lt_mono (Nat.zero_le _) hy) d) (a.put (some d) (y.den β)) β (ha.put hN' y) hex'
    rw [hd, ← hyv, ← den0 hy]
    exact this
  simp only [RunT]
  rw [if_pos (guardVal_ok ha hg)]
  cases htag : it.tag with
  | pure => rw [htag] at hq; cases hq
  | quiet => rw [htag] at hq; cases hq
  | keep => exact fun w hw => hrun w hw _ _ fun v w' σ' hle hΦ hw' hsub => ⟨_, _, hw', fun _ h => h, hsub, cont v σ' hle hΦ ⟨_, hw'⟩⟩
  | sink => exact fun w hw => hrun w hw _ _ fun v w' σ' hle hΦ hw' _ => ⟨_, _, hw', fun _ h => h, cont v σ' hle hΦ ⟨_, hw'⟩⟩
  | free => exact fun w hw => hrun w hw _ _ fun v w' σ' hle hΦ hw' _ => ⟨_, _, hw', fun _ h => h, cont v σ' hle hΦ ⟨_, hw'⟩⟩

/-- The same, where what it hands back bears no memory: what is sealed stays as it is. -/
theorem oj_call_plain {d : Nat} {f : FuncId} {ys : List SV} {Φ : Value → Prop} (hc : callee env it.o.op = some (f, ys)) (hd : it.o.dst = some d) (hg : guardVal it.guard env = some true)
    (hN : Nat.blt d cf.N = true) (hq : notQuiet it.tag = true) (hcall : ∀ args w, (callFunc f args).run cf.P w = .ok (.enter f args) w) (hlt : ∀ y ∈ ys, y.lt 0)
    (hC : PureC cf.P f (ys.map (SV.den β0)).toArray σ (fun v _ => Φ v))
    (k : ∀ v, Φ v → ∃ y : SV, y.lt 0 ∧ y.den β0 = v ∧ OJ cf rest Q σ ((d, y) :: env) hp A nh) : OJ cf (it :: rest) Q σ env hp A nh := by
  have hC' : PureC cf.P f (ys.map (SV.den β0)).toArray σ (fun v σ' => Φ v ∧ σ' = σ) := by
    intro w hs
    refine Calls.mono (hC w hs) fun e w' ⟨v, σ', he, h1, h2, h3, h4⟩ => ⟨v, σ, he, h1, ⟨Snap.le_refl σ, fun b hb => .inl hb⟩, fun b o hb => h3 b o (h2.le b o hb), h4, rfl⟩
  refine oj_call hc hd hg hN hq hcall hlt hC' fun v σ' _ ⟨hv, he⟩ => ?_
  subst he
  exact k v hv

end
end Go.Sy
